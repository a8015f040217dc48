import Derived.Test.YtigeofkllldilaaGreatDoorJM28
import Derived.Test.YtigeofkllldilaaGreatDoorJM37
set_option maxHeartbeats 32000000
set_option maxRecDepth 100000
set_option linter.unusedSectionVars false
open Go.Proofs.Tryz
namespace Go.Proofs.YtigeofkllldilaaGreatDoor
section
open Go.RowKit Go.Maps
theorem lN {α:Type} {Q:Nat->α->Prop} :∀(n:Nat),(∀i,i<n->∃x,Q i x)->∃l:List α,l.length=n/\∀i x,l[i]?=some x->Q i x
 |0,_=>⟨[],rfl,fun i x h=>by simp at h⟩
 |n+1,h=>by
  obtain⟨l,h1,h2⟩:=lN n fun i hi=>h i (by omega)
  obtain⟨y,hy⟩:=h n (by omega)
  refine⟨l++[y],by simp[h1],fun i x hx=>?_⟩
  by_cases hi:i<l.length
  ·rw[List.getElem?_append_left hi]at hx
   exact h2 i x hx
  ·have hlt:=(aq hx).1
   simp at hlt
   have hi2:i=l.length:=by omega
   subst hi2
   rw[List.getElem?_append_right aC,Nat.sub_self]at hx
   have e:y=x:=by simpa using hx
   subst e
   rw[h1]
   exact hy
def BN (B k:Nat):Prop:=B<=k/\k≠B+1
abbrev gC:=Nat×Nat
def fV (p:gC):List Value:=[.pointer (some (ak p.1 p.2))]
structure cu (w:World) (p:gC) (k n:Int) (s:List UInt8) (sl:Value):Prop where
 c0:w.cell? (ak p.1 p.2)=some (ae k)
 c1:w.cell? (ak p.1 (p.2+1))=some (ae n)
 c2:w.cell? (ak p.1 (p.2+2))=some (af s)
 c3:w.cell? (ak p.1 (p.2+3))=some sl
theorem cu.keep {w w':World} {p:gC} {k n:Int} {s:List UInt8} {sl:Value} (h:cu w p k n s sl) (hb:w'.heap[p.1]?=w.heap[p.1]?):cu w' p k n s sl:=
 ⟨(World.cell?_of_block (w:=w) (a:=⟨p.1,p.2,none⟩) hb).trans h.c0,(World.cell?_of_block (w:=w) (a:=⟨p.1,p.2+1,none⟩) hb).trans h.c1,(World.cell?_of_block (w:=w) (a:=⟨p.1,p.2+2,none⟩) hb).trans h.c2,(World.cell?_of_block (w:=w) (a:=⟨p.1,p.2+3,none⟩) hb).trans h.c3⟩
def D8 (w:World) (Dn:List (gC×Tm)) (Pd:List (gC×Tm×Tm)) (p:gC) (T:Tm):Prop:=
 T.s.length<=maxLen/\∃sl,cu w p T.k T.n T.s sl/\((T.args=[]/\sl=aj)∨
  ∃g c,sl=al g T.args.length c/\∀i Ti,T.args[i]?=some Ti->((g,i*4),Ti)∈Dn\/∃t,((g,i*4),t,Ti)∈Pd)
structure j7 (w:World) (B B0:Nat) (Dn:List (gC×Tm)) (Pd:List (gC×Tm×Tm)):Prop where
 nd:(Dn.map (·.1)++Pd.map (·.1)).Nodup
 loc:∀p,p∈Dn.map (·.1)++Pd.map (·.1)->BN B p.1/\aR w 27 p.1/\p.2%4=0
 dn:∀p T,(p,T)∈Dn->D8 w Dn Pd p T
 pd:∀p t T,(p,t,T)∈Pd->∃x:TV,cu w p x.k x.n x.s (.slice x.A x.len x.cap)/\aO w B0 x t
 low:B0<=B
section
variable {w w':World} {B B0:Nat} {Dn:List (gC×Tm)} {Pd:List (gC×Tm×Tm)}
theorem cu.other {p q:gC} {k n:Int} {s:List UInt8} {sl:Value} (h:cu w q k n s sl) (hp:p.2%4=0) (hq:q.2%4=0) (hne:q≠p) (j:Nat) (hj:j<4) (v:Value):cu (w.setCell (ak p.1 (p.2+j)) v) q k n s sl:=by
 have ho:∀i,i<4->(w.setCell (ak p.1 (p.2+j)) v).cell? (ak q.1 (q.2+i))=w.cell? (ak q.1 (q.2+i)):=fun i hi=>World.cell?_setCell_other _ _ _ _ (by
  intro e
  injection e with e1 e2
  exact hne (Prod.ext (by first|exact e1|exact e1.symm) (by omega)))
 exact⟨(ho 0 (by omega)).trans h.c0,(ho 1 (by omega)).trans h.c1,(ho 2 (by omega)).trans h.c2,(ho 3 (by omega)).trans h.c3⟩
structure eK (w w':World) (B0:Nat) (p:gC):Prop where
 other:∀(q:gC) k n s sl,q≠p->q.2%4=0->aR w 27 q.1->cu w q k n s sl->cu w' q k n s sl
 ty:∀k,aR w 27 k->aR w' 27 k
 low:∀k,k<B0->w'.heap[k]?=w.heap[k]?
theorem j7.head {p:gC} {t T:Tm} (h:j7 w B B0 Dn ((p,t,T)::Pd)):p∉Dn.map (·.1)/\p∉Pd.map (·.1)/\(Dn.map (·.1)++Pd.map (·.1)).Nodup:=by
 have h1:=h.nd
 rw[List.map_cons]at h1
 have h2:=(List.perm_middle (a:=p) (l₁:=Dn.map (·.1)) (l₂:=Pd.map (·.1))).nodup_iff.1 h1
 rw[List.nodup_cons]at h2
 exact⟨fun e=>h2.1 (List.mem_append_left _ e),fun e=>h2.1 (List.mem_append_right _ e),h2.2⟩
theorem j7.step {p:gC} {t T:Tm} (h:j7 w B B0 Dn ((p,t,T)::Pd)) (hs:eK w w' B0 p) (g c:Nat) (sl:Value) (hT:T.s.length<=maxLen) (hc:cu w' p T.k T.n T.s sl)
 (hsl:(T.args=[]/\sl=aj)\/sl=al g T.args.length c)
 (hg:T.args≠[]->BN B g/\aR w' 27 g/\∀q,aR w 27 q->q≠g)
 (hch:∀i,i<T.args.length->∃x:TV,cu w' (g,i*4) x.k x.n x.s (.slice x.A x.len x.cap)/\aO w' B0 x (t.args.getD i aQ)):
 j7 w' B B0 ((p,T)::Dn) ((List.range T.args.length).map (fun i=>((g,i*4),t.args.getD i aQ,T.args.getD i aQ))++Pd):=by
 obtain⟨n1,n2,n3⟩:=h.head
 have hp:=h.loc p (List.mem_append_right _ (by simp))
 have hloc:∀q,q∈Dn.map (·.1)++Pd.map (·.1)->BN B q.1/\aR w 27 q.1/\q.2%4=0:=fun q hq=>h.loc q (by
  rcases List.mem_append.1 hq with e|e
  ·exact List.mem_append_left _ e
  ·exact List.mem_append_right _ (List.mem_cons_of_mem _ e))
 have hne:∀q,q∈Dn.map (·.1)++Pd.map (·.1)->q≠p:=fun q hq e=>by
  subst e
  rcases List.mem_append.1 hq with e|e
  ·exact n1 e
  ·exact n2 e
 have hmap:((List.range T.args.length).map (fun i=>(((g,i*4),t.args.getD i aQ,T.args.getD i aQ):gC×Tm×Tm))).map (·.1)=(List.range T.args.length).map fun i=>((g,i*4):gC):=by
  rw[List.map_map]
  rfl
 have hin:∀q,q∈(List.range T.args.length).map (fun i=>((g,i*4):gC))->q.1=g/\q.2%4=0/\T.args≠[]:=fun q hq=>by
  obtain⟨i,hi,rfl⟩:=List.mem_map.1 hq
  have:=List.mem_range.1 hi
  exact⟨rfl,by show i*4%4=0;omega,fun e=>by rw[e]at this;simp at this⟩
 refine⟨?_,?_,?_,?_,h.low⟩
 ·rw[List.map_cons,List.map_append,hmap,List.cons_append,List.nodup_cons]
  have hch2:((List.range T.args.length).map fun i=>((g,i*4):gC)).Nodup:=by
   refine List.pairwise_map.2 (List.nodup_range.imp fun hij e=>hij ?_)
   have:=congrArg Prod.snd e
   simp only at this
   omega
  refine⟨fun e=>?_,?_⟩
  ·rcases List.mem_append.1 e with e|e
   ·exact n1 e
   ·rcases List.mem_append.1 e with e|e
    ·obtain⟨e1,-,e3⟩:=hin p e
     exact(hg e3).2.2 p.1 hp.2.1 e1
    ·exact n2 e
  ·rw[List.nodup_append]at n3⊢
   refine⟨n3.1,?_,?_⟩
   ·rw[List.nodup_append]
    refine⟨hch2,n3.2.1,fun a ha b hb e=>?_⟩
    subst e
    obtain⟨e1,-,e3⟩:=hin a ha
    exact(hg e3).2.2 a.1 (hloc a (List.mem_append_right _ hb)).2.1 e1
   ·intro a ha b hb e
    subst e
    rcases List.mem_append.1 hb with e|e
    ·obtain⟨e1,-,e3⟩:=hin a e
     exact(hg e3).2.2 a.1 (hloc a (List.mem_append_left _ ha)).2.1 e1
    ·exact n3.2.2 a ha a e rfl
 ·intro q hq
  rw[List.map_cons,List.map_append,hmap,List.cons_append]at hq
  rcases List.mem_cons.1 hq with rfl|hq
  ·exact⟨hp.1,hs.ty _ hp.2.1,hp.2.2⟩
  ·rcases List.mem_append.1 hq with e|e
   ·have:=hloc q (List.mem_append_left _ e)
    exact⟨this.1,hs.ty _ this.2.1,this.2.2⟩
   ·rcases List.mem_append.1 e with e|e
    ·obtain⟨e1,e2,e3⟩:=hin q e
     exact⟨by rw[e1];exact(hg e3).1,by rw[e1];exact(hg e3).2.1,e2⟩
    ·have:=hloc q (List.mem_append_right _ e)
     exact⟨this.1,hs.ty _ this.2.1,this.2.2⟩
 ·intro q Tq hq
  rcases List.mem_cons.1 hq with e|hq
  ·injection e with e1 e2
   subst e1 e2
   refine⟨hT,sl,hc,?_⟩
   rcases hsl with e|e
   ·exact .inl e
   ·refine .inr ⟨g,c,e,fun i Ti hi=>.inr ⟨t.args.getD i aQ,List.mem_append_left _ (List.mem_map.2 ⟨i,List.mem_range.2 (aq hi).1,?_⟩)⟩⟩
    rw[show Tq.args.getD i aQ=Ti by rw[List.getD_eq_getElem?_getD,hi];rfl]
  ·have hql:=hloc q (List.mem_append_left _ (List.mem_map_of_mem hq))
   obtain⟨h0,sq,h1,h2⟩:=h.dn q Tq hq
   refine⟨h0,sq,hs.other q _ _ _ _ (hne q (List.mem_append_left _ (List.mem_map_of_mem hq))) hql.2.2 hql.2.1 h1,?_⟩
   rcases h2 with h2|⟨g',c',h2,h3⟩
   ·exact .inl h2
   ·refine .inr ⟨g',c',h2,fun i Ti hi=>?_⟩
    rcases h3 i Ti hi with h4|⟨t',h4⟩
    ·exact .inl (List.mem_cons_of_mem _ h4)
    ·rcases List.mem_cons.1 h4 with e|h4
     ·injection e with e1 e2
      injection e2 with e2 e3
      exact .inl (by rw[e1,e3];exact List.mem_cons_self)
     ·exact .inr ⟨t',List.mem_append_right _ h4⟩
 ·intro q t' T' hq
  rcases List.mem_append.1 hq with e|e
  ·obtain⟨i,hi,e⟩:=List.mem_map.1 e
   injection e with e1 e2
   injection e2 with e2 e3
   subst e1 e2 e3
   exact hch i (List.mem_range.1 hi)
  ·obtain⟨x,h1,h2⟩:=h.pd q t' T' (List.mem_cons_of_mem _ e)
   have hql:=hloc q (List.mem_append_right _ (List.mem_map_of_mem e))
   exact⟨x,hs.other q _ _ _ _ (hne q (List.mem_append_right _ (List.mem_map_of_mem e))) hql.2.2 hql.2.1 h1,h2.keep aC hs.low⟩
theorem j7.read (h:j7 w B B0 Dn []):∀(m:Nat) (T:Tm) (p:gC),T.size<=m->(p,T)∈Dn->∃x:TV,cu w p x.k x.n x.s (.slice x.A x.len x.cap)/\aI w (fun k=>BN B k/\aR w 27 k) x T
 |0,T,_,hm,_=>by have:=bL T;omega
 |m+1,T,p,hm,hp=>by
  obtain⟨h0,sl,h1,h2⟩:=h.dn p T hp
  obtain⟨k,n,s,l⟩:=T
  rcases h2 with⟨h2,rfl⟩|⟨g,c,rfl,h3⟩
  ·have h2:l=[]:=h2
   subst h2
   exact⟨⟨k,n,s,none,0,0⟩,h1,aI.leaf _ _ k n s none 0 h0⟩
  ·have key:∀i,i<l.length->∃y:TV,cu w (g,i*4) y.k y.n y.s (.slice y.A y.len y.cap)/\aI w (fun k=>BN B k/\aR w 27 k) y (l.getD i aQ)/\(BN B g/\aR w 27 g):=fun i hi=>by
    have hi2:l[i]?=some (l.getD i aQ):=by rw[List.getD_eq_getElem?_getD,au hi];rfl
    have hmem:l.getD i aQ∈l:=List.mem_of_getElem? hi2
    rcases h3 i _ hi2 with h4|⟨t,h4⟩
    ·obtain⟨y,y1,y2⟩:=j7.read h m (l.getD i aQ) (g,i*4) (by have:=dD l _ hmem;simp only[Tm.size]at hm;omega) h4
     have hl:=h.loc (g,i*4) (List.mem_append_left _ (List.mem_map_of_mem h4))
     exact⟨y,y1,y2,hl.1,hl.2.1⟩
    ·cases h4
   obtain⟨xs,hx1,hx2⟩:∃xs:List TV,xs.length=l.length/\∀i y,xs[i]?=some y->cu w (g,i*4) y.k y.n y.s (.slice y.A y.len y.cap)/\aI w (fun k=>BN B k/\aR w 27 k) y (l.getD i aQ)/\(BN B g/\aR w 27 g):=lN l.length key
   refine⟨⟨k,n,s,some (ak g 0),l.length,c⟩,h1,.mk ⟨k,n,s,some (ak g 0),l.length,c⟩ l xs hx1 rfl h0 (fun i y hy=>?_) (fun i y t hy ht=>?_)⟩
   ·obtain⟨q1,q2,q3⟩:=hx2 i y hy
    refine⟨g,0,rfl,q3,fun j u hu=>?_⟩
    rw[Nat.zero_add]
    match j,hu with
    |0,hu=>
     have hu:ae y.k=u:=by simpa[aJ]using hu
     rw[<-hu];exact q1.c0
    |1,hu=>
     have hu:ae y.n=u:=by simpa[aJ]using hu
     rw[<-hu];exact q1.c1
    |2,hu=>
     have hu:af y.s=u:=by simpa[aJ]using hu
     rw[<-hu];exact q1.c2
    |3,hu=>
     have hu:Value.slice y.A y.len y.cap=u:=by simpa[aJ]using hu
     rw[<-hu];exact q1.c3
    |j+4,hu=>simp[aJ]at hu
   ·have:=(hx2 i y hy).2.1
    rwa[show l.getD i aQ=t by rw[List.getD_eq_getElem?_getD,ht];rfl]at this
end
end
section
open Go.RowKit Go.Maps
def oN (x:Int):List Value:=[ae x]
theorem xu (x:Int):(oN x).length=1:=rfl
theorem xH (x:Int):∀u∈oN x,u.oneCell'=true:=by
 intro u hu
 simp only[oN,List.mem_cons,List.mem_nil_iff,or_false]at hu
 subst hu
 rfl
theorem yw:∃i z,prog.info? 2=some i/\i.zero=some z/\i.size=1/\i.bytes=8/\z.cells.size=1:=by
 refine⟨_,_,rfl,rfl,?_,?_,?_⟩<;>kernel_rfl
theorem Dd:KE prog 2 kp pi:=
 ⟨int_keyed underlying2,fun _ hk=>⟨_,keyOf_int_mk underlying2 (tq hk.1 hk.2)⟩,fun a b h=>by simpa[kp]using h⟩
def wK (l:List Int) (k:Nat):List (Int×Int):=(l.zipIdx k).map fun p=>(p.1,(p.2:Int))
def fM (l:List Int):List (Int×Int):=wK l 0
theorem oF (l:List Int) (n:Int):fM (l++[n])=fM l++[(n,(l.length:Int))]:=by
 unfold fM wK
 rw[List.zipIdx_append]
 simp
theorem ou (n:Int):∀(l:List Int) (k:Nat),aP (wK l k) n=if n∈l then some (((l.idxOf n+k:Nat)):Int)else none
 |[],k=>by simp[wK,m8]
 |x::l,k=>by
  have ih:=ou n l (k+1)
  unfold wK at ih⊢
  rw[List.zipIdx_cons,List.map_cons,fs,ih]
  by_cases e:x=n
  ·subst e
   simp
  ·have e2:¬n=x:=fun h=>e h.symm
   rw[if_neg e,List.idxOf_cons]
   have e3:(x==n)=false:=by simpa using e
   rw[e3]
   by_cases hm:n∈l
   ·rw[if_pos hm,if_pos (List.mem_cons_of_mem _ hm)]
    simp only[cond_false]
    congr 2
    omega
   ·rw[if_neg hm,if_neg (by simp[e2,hm])]
theorem li (l:List Int) (n:Int):aP (fM l) n=if n∈l then some ((l.idxOf n:Nat):Int)else none:=ou n l 0
theorem lc (l:List Int):(fM l).map (·.1)=l:=by
 unfold fM wK
 rw[List.map_map]
 have:((fun x:Int×Int=>x.1)∘fun p:Int×Nat=>(p.1,(p.2:Int)))=Prod.fst:=rfl
 rw[this,List.zipIdx_map_fst]
def vI (l:List Int) (n:Int):List Int:=if n∈l then l else l++[n]
theorem BK (l:List Int) (n:Int):(vI l n).length<=l.length+1:=by
 unfold vI
 split
 ·exact Nat.le_succ _
 ·rw[List.length_append];exact aC
structure cB (u:World) (B b mb:Nat) (l:List Int):Prop where
 blk:∃A c,u.heap[b]?=some (.cells #[.slice A l.length c,.map (some mb)] 84 (0,0))/\aS u B 2 1 oN (.slice A l.length c) l
 map:aW u mb kp kp (fM l)
 bB:b<B
 mB:mb<B
 ok:∀n∈l,pi n
theorem cB.keep {u u':World} {B b mb:Nat} {l:List Int} (h:cB u B b mb l) (h1:u'.heap[b]?=u.heap[b]?) (h2:u'.heap[mb]?=u.heap[mb]?) (h3:∀k,B<=k->aR u 2 k->u'.heap[k]?=u.heap[k]?):cB u' B b mb l:=by
 obtain⟨A,c,k1,k2⟩:=h.blk
 exact⟨⟨A,c,h1.trans k1,k2.keep fun g hg=>h3 g (k2.lt g hg).1 (k2.ty hg)⟩,h.map.keep h2,h.bB,h.mB,h.ok⟩
theorem cB.later {u u':World} {B b mb:Nat} {l:List Int} (h:cB u B b mb l) (hb:aE u u'):cB u' B b mb l:=by
 obtain⟨A,c,k1,k2⟩:=h.blk
 exact h.keep (hb.block _ (ap k1).1) (hb.block _ h.map.lt) fun k _ hk=>hb.block k hk.lt
theorem cB.lt {u:World} {B b mb:Nat} {l:List Int} (h:cB u B b mb l):b<u.heap.size:=by
 obtain⟨A,c,k1,_⟩:=h.blk
 exact(ap k1).1
def qw (w:World) (B b mb:Nat) (k:Nat):Prop:=k=b\/k=mb\/(B<=k/\aR w 2 k)
theorem o5 {u:World} {mb:Nat} {l:List Int} (hm:aW u mb kp kp (fM l)) (hok:∀n∈l,pi n) (n:Int) (hn:pi n):
 (Instr.lookup 81 (.map (some mb)) (ae n) true).run prog u=.ok (.tuple #[ae (if n∈l then((l.idxOf n:Nat):Int)else 0),.bool (decide (n∈l))]) u:=by
 have hk:∀x∈fM l,pi x.1:=fun x hx=>hok _ (by rw[<-lc l];exact List.mem_map_of_mem hx)
 have:=hm.lookup (t:=81) Dd underlying81 (z:=ae 0) (fun u=>by kernel_rfl) hk (k:=n) hn true
 simp only[if_true]at this
 rw[li]at this
 by_cases hm':n∈l
 ·rw[if_pos hm']at this⊢
  rw[decide_eq_true hm']
  exact this
 ·rw[if_neg hm']at this⊢
  rw[decide_eq_false hm']
  exact this
theorem zz {u:World} {mb:Nat} {l:List Int} (hm:aW u mb kp kp (fM l)) (hok:∀n∈l,pi n) (n:Int) (hn:pi n) (hx:n∉l):
 ∃w',(Instr.mapUpdate 81 (.map (some mb)) (ae n) (ae (l.length:Int))).run prog u=.ok () w'/\aW w' mb kp kp (fM (l++[n]))/\u.grownBy w' (some mb)/\w'.heap.size=u.heap.size:=by
 have hk:∀x∈fM l,pi x.1:=fun x hx=>hok _ (by rw[<-lc l];exact List.mem_map_of_mem hx)
 obtain⟨w',h1,h2,h3,h4⟩:=aW.update (P:=prog) (t:=81) Dd underlying81 hm hk (k:=n) hn (l.length:Int)
 have hp:cL (fM l) n (l.length:Int)=fM (l++[n]):=by
  rw[oF]
  unfold cL
  rw[li,if_neg hx]
  simp
 rw[hp]at h2
 exact⟨w',h1,h2,h3,h4⟩
theorem tY (w:World) (B b mb:Nat) (l:List Int) (h:cB w B b mb l) (n:Int) (hn:pi n) (hm:n∈l):
 Calls prog 30 #[ah b,ae n] w fun e w'=>e=.returned (ae (l.idxOf n:Int))/\w'=w:=by
 obtain⟨A,c,hb,hr⟩:=h.blk
 have hlk:=o5 h.map h.ok n hn
 rw[if_pos hm,decide_eq_true hm]at hlk
 have c1:w.cell? (ak b 1)=some (.map (some mb)):=by rw[cell_of_row w b 1 _ _ (0,0) hb];rfl
 clear hr hb h
 go_enter func30,ntmps30
 go_wp2_with fail
 go_ret
 exact⟨rfl,rfl⟩
theorem tT (w:World) (B b mb:Nat) (l:List Int) (h:cB w B b mb l) (n:Int) (hn:pi n) (hm:n∉l) (hl:l.length<=100000000) (hB:B<=w.heap.size):
 Calls prog 30 #[ah b,ae n] w fun e w'=>e=.returned (ae (l.length:Int))/\cB w' B b mb (l++[n])/\Fr (qw w B b mb) w w':=by
 obtain⟨A,c,hb,hr⟩:=h.blk
 have hlk:=o5 h.map h.ok n hn
 rw[if_neg hm,decide_eq_false hm]at hlk
 obtain⟨w1,hup,hM1,hG1,hs1⟩:=zz h.map h.ok n hn hm
 have hbl:=h.lt
 have hne:b≠mb:=by
  intro e
  exact h.map.ne (b':=b) (t:=84) ⟨_,hb⟩ e.symm
 have hb1:w1.heap[b]?=some (.cells #[.slice A l.length c,.map (some mb)] 84 (0,0)):=(hG1.block b hbl (fun e=>hne (by injection e))).trans hb
 have hr1:aS w1 B 2 1 oN (.slice A l.length c) l:=hr.keep fun k hk=>hG1.block k (hr.lt k hk).2 (fun e=>by have h1:=(hr.lt k hk).1;have h2:=h.mB;injection e with e;omega)
 have c0:w.cell? (ak b 0)=some (.slice A l.length c):=by rw[cell_of_row w b 0 _ _ (0,0) hb];rfl
 have c1:w.cell? (ak b 1)=some (.map (some mb)):=by rw[cell_of_row w b 1 _ _ (0,0) hb];rfl
 have d0:w1.cell? (ak b 0)=some (.slice A l.length c):=by rw[cell_of_row w1 b 0 _ _ (0,0) hb1];rfl
 have hbl1:b<w1.heap.size:=by omega
 have HR1:=ad hr1
 have HM1:=ad hM1
 have HG1:=ad hG1
 have HB1:=ad hb1
 have HH:=ad h
 have HS1:=ad hs1
 have HBw:=ad hB
 have HLL:=ad hl
 have HOK:=ad hn
 have HNE:=ad hne
 obtain⟨i0,z0,hi0,hz0,hz1,hz2,hz3⟩:=yw
 clear hr hr1 hM1 hG1 h hb hb1 hs1 hB
 go_enter func30,ntmps30
 go_wp2_with (at_builtin;refine cK rfl _ _ 82 rfl _ B 2 i0 z0 1 8 oN underlying82 hi0 hz0 hz1 hz2 hz3 (by decide) xu xH _ l n rfl (HR1.alloc _) _ _ rfl (fun j u hu=>bV w1 _ _ j u (by rw[<-Array.getElem?_toList];exact hu)) (by have:=HLL.out;unfold maxLen;omega) (by have:=HLL.out;omega) (by have:=HBw.out;have:=HS1.out;simp;omega) ?_)
 intro v' w5 hrow5 hg5
 obtain⟨A5,c5,rfl⟩:=hrow5.shape
 have hlt5:b<(w1.alloc (.cells #[ae n] 2)).heap.size:=by simp;omega
 have hown:∀g,(Value.slice A l.length c).ownBlock=some g->B<=g/\aR w 2 g:=fun g hg=>by
  have h1:=HR1.lt g hg
  obtain⟨cs,h2⟩:=HR1.ty hg
  have h3:=HG1.block g (by have:=HS1.out;omega) (fun e=>by have h4:=HH.mB;injection e with e;omega)
  exact⟨h1.1,cs,h3.symm.trans h2⟩
 have hb5:w5.heap[b]?=some (.cells #[.slice A l.length c,.map (some mb)] 84 (0,0)):=by
  rw[hg5.block b hlt5 (fun e=>by have h1:=(hown b e.symm).1;have h2:=HH.bB;omega),aw _ _ _ hbl1]
  exact HB1.out
 have hm5:w5.heap[mb]?=w1.heap[mb]?:=by
  have:=HM1.lt
  rw[hg5.block mb (by simp;omega) (fun e=>by have h1:=(hown mb e.symm).1;have h2:=HH.mB;omega),aw _ _ _ this]
 have e0:w5.cell? (ak b 0)=some (.slice A l.length c):=by rw[cell_of_row w5 b 0 _ _ (0,0) hb5];rfl
 have ef:w5.frozen? ⟨b,0,none⟩=false:=by simp[World.frozen?,hb5]
 have hF:Fr (qw w B b mb) w w5:=(((Fr.refl (qw w B b mb) w).grown HG1.out fun g e=>.inl (by cases e;exact .inr (.inl rfl))).alloc _).grown hg5 fun g e=>.inl (.inr (.inr (hown g e)))
 have hS6:cB (w5.setCell (ak b 0) (.slice A5 (l++[n]).length c5)) B b mb (l++[n]):=by
  refine⟨⟨A5,c5,aK hb5 _,hrow5.away _ fun k hk=>by have h1:=(hrow5.lt k hk).1;have h2:=HH.bB;simp only;omega⟩,?_,HH.bB,HH.mB,fun x hx=>?_⟩
  ·exact(HM1.keep hm5).setCell (p:=(ak b 0)) (by simp only;exact fun e=>HNE.out e.symm) _
  ·rcases List.mem_append.1 hx with hx|hx
   ·exact HH.ok x hx
   ·rw[List.mem_singleton]at hx
    subst hx
    exact HOK.out
 have HS6:=ad hS6
 have HF6:=ad (hF.setCell (p:=(ak b 0)) (.inl (.inl rfl)) (.slice A5 (l++[n]).length c5))
 clear hrow5 hg5 hown hb5 hm5 hF hS6 c0 c1 d0
 generalize (l++[n]).length=m5 at HS6 HF6⊢
 go_wp2_with fail
 go_ret
 exact⟨rfl,HS6.out,HF6.out⟩
theorem wR (w:World) (B b mb:Nat) (l:List Int) (h:cB w B b mb l) (n:Int) (hn:pi n) (hl:l.length<=100000000) (hB:B<=w.heap.size):
 Calls prog 30 #[ah b,ae n] w fun e w'=>e=.returned (ae (l.idxOf n:Int))/\cB w' B b mb (vI l n)/\Fr (qw w B b mb) w w':=by
 unfold vI
 by_cases hm:n∈l
 ·refine(tY w B b mb l h n hn hm).mono ?_
  rintro e w' ⟨rfl,rfl⟩
  rw[if_pos hm]
  exact⟨rfl,h,Fr.refl _ _⟩
 ·refine(tT w B b mb l h n hn hm hl hB).mono ?_
  rintro e w' ⟨rfl,h1,h2⟩
  rw[if_neg hm,List.idxOf_eq_length hm]
  exact⟨rfl,h1,h2⟩
theorem B7 {w:World} {B:Nat} {x:TV} {t:Tm} (h:aO w B x t) (h0:0<x.len):
 ∃(xs:List TV) (b off:Nat),xs.length=x.len/\x.A=some (ak b off)/\b<B/\(∀i y,xs[i]?=some y->∀(j:Nat) u,(aJ y)[j]?=some u->w.cell? (ak b (off+i*4+j))=some u)/\(∀i y,xs[i]?=some y->aO w B y (t.args.getD i aQ)):=by
 cases h with
 |mk _ args xs h1 h2 h3 hc ht=>
  obtain⟨y0,hy0⟩:∃y,xs[0]?=some y:=⟨_,au (by omega)⟩
  obtain⟨b,off,e1,e2,-⟩:=hc 0 y0 hy0
  refine⟨xs,b,off,h1,e1,e2,fun i y hy j u hu=>?_,fun i y hy=>?_⟩
  ·obtain⟨b',off',e1',-,e3'⟩:=hc i y hy
   rw[e1]at e1'
   injection e1' with e1'
   injection e1' with q1 q2
   subst q1 q2
   exact e3' j u hu
  ·have hi:=(aq hy).1
   exact ht i y _ hy (by show args[i]?=some (args.getD i aQ);rw[List.getD_eq_getElem?_getD,au (by omega)];rfl)
def fi (seen:List Int) (n:Int):Int×List Int:=((seen.idxOf n:Nat),vI seen n)
mutual
def gl (nu:List Int->Int->Int×List Int) (seen:List Int):Tm->Tm×List Int
 | .mk k n s l=>if k=1 then(.mk 1 (nu seen n).1 s l,(nu seen n).2)else(.mk k n s (cJ nu seen l).1,(cJ nu seen l).2)
def cJ (nu:List Int->Int->Int×List Int) (seen:List Int):List Tm->List Tm×List Int
 |[]=>([],seen)
 |t::r=>((gl nu seen t).1::(cJ nu (gl nu seen t).2 r).1,(cJ nu (gl nu seen t).2 r).2)
end
theorem om (nu:List Int->Int->Int×List Int):∀(a b:List Tm) (seen:List Int),cJ nu seen (a++b)=((cJ nu seen a).1++(cJ nu (cJ nu seen a).2 b).1,(cJ nu (cJ nu seen a).2 b).2)
 |[],b,seen=>by rw[List.nil_append,cJ];simp
 |t::a,b,seen=>by rw[List.cons_append,cJ,om nu a b,cJ];rfl
theorem oX (nu:List Int->Int->Int×List Int):∀(l:List Tm) (seen:List Int),(cJ nu seen l).1.length=l.length
 |[],seen=>by rw[cJ]
 |t::r,seen=>by rw[cJ,List.length_cons,List.length_cons,oX nu r]
theorem ji (x:gC):(fV x).length=1:=rfl
theorem xE (x:gC):∀u∈fV x,u.oneCell'=true:=by
 intro u hu
 simp only[fV,List.mem_cons,List.mem_nil_iff,or_false]at hu
 subst hu
 rfl
theorem AE:∃i z,prog.info? 157=some i/\i.zero=some z/\i.size=1/\i.bytes=8/\z.cells.size=1:=by
 refine⟨_,_,rfl,rfl,?_,?_,?_⟩<;>kernel_rfl
theorem aR.set {w:World} {t:TypeId} {k:Nat} (h:aR w t k) (b j:Nat) (v:Value):aR (w.setCell (ak b j) v) t k:=by
 obtain⟨cs,h⟩:=h
 by_cases hk:k=b
 ·subst hk
  exact⟨_,aK h v⟩
 ·exact⟨cs,(av _ _ _ _ hk).trans h⟩
section
variable {w w' w'':World} {B0:Nat} {p:gC} {k n:Int} {s:List UInt8} {sl:Value}
theorem eK.trans (h:eK w w' B0 p) (h2:eK w' w'' B0 p):eK w w'' B0 p:=
 ⟨fun q k n s sl e1 e2 e3 hc=>h2.other q k n s sl e1 e2 (h.ty _ e3) (h.other q k n s sl e1 e2 e3 hc),fun k hk=>h2.ty k (h.ty k hk),fun k hk=>(h2.low k hk).trans (h.low k hk)⟩
theorem eK.set (w:World) (hB:B0<=p.1) (hp:p.2%4=0) (j:Nat) (hj:j<4) (v:Value):eK w (w.setCell (ak p.1 (p.2+j)) v) B0 p:=
 ⟨fun _ _ _ _ _ e1 e2 _ hc=>hc.other hp e2 e1 j hj v,fun _ hk=>hk.set _ _ _,fun k hk=>av _ _ _ _ (by simp only;omega)⟩
theorem eK.of_fr {S:Nat->Prop} (h:Fr S w w') (hB:B0<=w.heap.size) (h1:∀k,S k->B0<=k) (h2:∀k,S k->¬aR w 27 k) (p:gC):eK w w' B0 p:=
 ⟨fun q _ _ _ _ _ _ e3 hc=>hc.keep (h.block _ e3.lt fun e=>h2 _ e e3),fun k hk=>hk.keep (h.block _ hk.lt fun e=>h2 _ e hk),fun k hk=>h.block k (by omega) fun e=>by have:=h1 k e;omega⟩
theorem cu.set1 (h:cu w p k n s sl) (m:Int):cu (w.setCell (ak p.1 (p.2+1)) (ae m)) p k m s sl:=
 ⟨(World.cell?_setCell_other _ _ _ _ (by simp)).trans h.c0,World.cell?_setCell_same _ _ _ h.c1,(World.cell?_setCell_other _ _ _ _ (by simp)).trans h.c2,(World.cell?_setCell_other _ _ _ _ (by simp)).trans h.c3⟩
theorem cu.set3 (h:cu w p k n s sl) (v:Value):cu (w.setCell (ak p.1 (p.2+3)) v) p k n s v:=
 ⟨(World.cell?_setCell_other _ _ _ _ (by simp)).trans h.c0,(World.cell?_setCell_other _ _ _ _ (by simp)).trans h.c1,(World.cell?_setCell_other _ _ _ _ (by simp)).trans h.c2,World.cell?_setCell_same _ _ _ h.c3⟩
end
theorem jI:∀l:List Tm,l.length<=Tm.sizes l
 |[]=>aC
 |t::r=>by
  have h1:=jI r
  have h2:=bL t
  rw[Tm.sizes,List.length_cons]
  omega
theorem CL {t:Tm} (h:t.may=true) (hk:t.k=1):t.s=[]/\t.args=[]:=by
 obtain⟨k,n,s,l⟩:=t
 rw[Tm.may,Bool.and_eq_true]at h
 have h1:=h.1
 have hk:k=1:=hk
 subst hk
 unfold eR at h1
 rw[if_pos rfl]at h1
 obtain⟨_,h2,h3⟩:=of_decide_eq_true h1
 exact⟨h2,List.eq_nil_of_length_eq_zero h3⟩
theorem kL:∀(a b:List Tm),Tm.sizes (a++b)=Tm.sizes a+Tm.sizes b
 |[],b=>by simp[Tm.sizes]
 |t::r,b=>by
  have ih:=kL r b
  simp only[List.cons_append,Tm.sizes]
  omega
theorem Fr.beyond {S S':Nat->Prop} {u w w':World} (h:Fr S u w) (k:Fr S' w w') (hS:∀j,S' j->u.heap.size<=j):Fr S u w':=
 ⟨k.os.trans h.os,k.tape.trans h.tape,k.output.trans h.output,Nat.le_trans h.size k.size,fun i hi hn=>(k.block i (Nat.lt_of_lt_of_le hi h.size) fun e=>by have:=hS i e;omega).trans (h.block i hi hn)⟩
def sK (g n j:Nat):List gC:=((List.range (n-j)).map (fun i=>((g,(j+i)*4):gC))).reverse
theorem CF (g n:Nat):sK g n 0=((List.range n).map (fun i=>((g,i*4):gC))).reverse:=by
 unfold sK
 simp
theorem zq (g n:Nat):sK g n n=[]:=by
 unfold sK
 simp
theorem CP (g n j:Nat):(sK g n j).length=n-j:=by
 unfold sK
 simp
theorem zT (g n j:Nat) (h:j<n):sK g n j=sK g n (j+1)++[(g,j*4)]:=by
 unfold sK
 rw[show n-j=(n-(j+1))+1 by omega,List.range_succ_eq_map,List.map_cons,List.reverse_cons,List.map_map]
 congr 2
 refine List.map_congr_left fun i _=>?_
 show((g,(j+(i+1))*4):gC)=(g,(j+1+i)*4)
 congr 1
 omega
structure BP (u:World) (B0:Nat) (Q:World->List Int->Prop) (nu:List Int->Int->Int×List Int) (fin:List Int) (T0:Tm) (S:Nat->Prop) (Dn:List (gC×Tm)) (Pd:List (gC×Tm×Tm)) (seen:List Int) (v:Value) (wr:World):Prop where
 ren:j7 wr u.heap.size B0 Dn Pd
 row:aS wr u.heap.size 157 1 fV v (Pd.reverse.map (·.1))
 q:Q wr seen
 fr:Fr S u wr
 eq:cJ nu seen (Pd.map (·.2.1))=(Pd.map (·.2.2),fin)
 ok:∀x∈Pd,x.2.1.may=true/\x.2.1.fits=true
 sz:seen.length+Tm.sizes (Pd.map (·.2.1))<=1000000
 root:((u.heap.size,0),T0)∈Dn\/∃t,((u.heap.size,0),t,T0)∈Pd
 res:wr.heap[u.heap.size+1]?=some (.cells #[ae 0,ae 0,ai,aj] 27 (0,0))
 big:u.heap.size+2<wr.heap.size
section
variable {u wr w2:World} {B0:Nat} {Q:World->List Int->Prop} {nu:List Int->Int->Int×List Int} {fin:List Int} {T0:Tm} {S:Nat->Prop} {Dn:List (gC×Tm)} {Pd:List (gC×Tm×Tm)} {seen:List Int} {v:Value} {p:gC} {t T:Tm}
theorem BP.top (h:BP u B0 Q nu fin T0 S Dn ((p,t,T)::Pd) seen v wr):
 T=(gl nu seen t).1/\cJ nu (gl nu seen t).2 (Pd.map (·.2.1))=(Pd.map (·.2.2),fin):=by
 have h1:=h.eq
 rw[List.map_cons,List.map_cons,cJ]at h1
 have h2:=congrArg Prod.fst h1
 have h3:=congrArg Prod.snd h1
 simp only at h2 h3
 injection h2 with h2 h4
 exact⟨h2.symm,Prod.ext h4 h3⟩
theorem mz {α:Type} (l:List α) (d:α):(List.range l.length).map (fun i=>l.getD i d)=l:=by
 apply List.ext_getElem?
 intro i
 rw[List.getElem?_map]
 by_cases hi:i<l.length
 ·rw[List.getElem?_range hi,Option.map_some,List.getD_eq_getElem?_getD,au hi]
  rfl
 ·rw[List.getElem?_eq_none (by simp;omega),List.getElem?_eq_none (by omega)]
  rfl
theorem BP.next (h:BP u B0 Q nu fin T0 S Dn ((p,t,T)::Pd) seen v wr) (hs:eK wr w2 B0 p) (g c:Nat) (sl v2:Value) (seen2:List Int) (hseen:seen2.length<=seen.length+1)
 (hT:T.s.length<=maxLen) (hc:cu w2 p T.k T.n T.s sl) (hlen:T.args.length=t.args.length)
 (hsl:(T.args=[]/\sl=aj)\/sl=al g T.args.length c)
 (hg:T.args≠[]->BN u.heap.size g/\aR w2 27 g/\∀q,aR wr 27 q->q≠g)
 (hch:∀i,i<T.args.length->∃x:TV,cu w2 (g,i*4) x.k x.n x.s (.slice x.A x.len x.cap)/\aO w2 B0 x (t.args.getD i aQ))
 (hrow:aS w2 u.heap.size 157 1 fV v2 (Pd.reverse.map (·.1)++((List.range T.args.length).map (fun i=>((g,i*4):gC))).reverse)) (hq:Q w2 seen2) (hfr:Fr S u w2)
 (heq:cJ nu seen2 (t.args++Pd.map (·.2.1))=(T.args++Pd.map (·.2.2),fin)) (hres:w2.heap[u.heap.size+1]?=wr.heap[u.heap.size+1]?) (hbig:wr.heap.size<=w2.heap.size):
 BP u B0 Q nu fin T0 S ((p,T)::Dn) ((List.range T.args.length).map (fun i=>((g,i*4),t.args.getD i aQ,T.args.getD i aQ))++Pd) seen2 v2 w2:=by
 have hm1:(((List.range T.args.length).map (fun i=>(((g,i*4),t.args.getD i aQ,T.args.getD i aQ):gC×Tm×Tm))).map (·.2.1))=t.args:=by
  rw[List.map_map,hlen]
  exact mz t.args aQ
 have hm2:(((List.range T.args.length).map (fun i=>(((g,i*4),t.args.getD i aQ,T.args.getD i aQ):gC×Tm×Tm))).map (·.2.2))=T.args:=by
  rw[List.map_map]
  exact mz T.args aQ
 refine⟨h.ren.step hs g c sl hT hc hsl hg hch,?_,hq,hfr,?_,?_,?_,?_,hres.trans h.res,Nat.lt_of_lt_of_le h.big hbig⟩
 ·rw[List.reverse_append,List.map_append,List.map_reverse (l:=(List.range T.args.length).map _),List.map_map]
  exact hrow
 ·rw[List.map_append,List.map_append,hm1,hm2]
  exact heq
 ·intro x hx
  rcases List.mem_append.1 hx with e|e
  ·obtain⟨i,hi,rfl⟩:=List.mem_map.1 e
   have hi2:i<t.args.length:=by have:=List.mem_range.1 hi;omega
   have hmem:t.args.getD i aQ∈t.args:=by rw[List.getD_eq_getElem?_getD,au hi2];exact List.getElem_mem hi2
   obtain⟨o1,o2⟩:=h.ok _ (List.mem_cons_self ..)
   have hw:iF t:=⟨o1,o2⟩
   exact⟨(hw.mem hmem).may,(hw.mem hmem).fits⟩
  ·exact h.ok x (List.mem_cons_of_mem _ e)
 ·have h1:=h.sz
  rw[List.map_cons,Tm.sizes]at h1
  have h1:seen.length+(t.size+Tm.sizes (Pd.map (·.2.1)))<=1000000:=h1
  have h2:=bE t
  have h3:Tm.sizes (t.args++Pd.map (·.2.1))=Tm.sizes t.args+Tm.sizes (Pd.map (·.2.1)):=kL _ _
  rw[List.map_append,hm1,h3]
  omega
 ·rcases h.root with e|⟨t',e⟩
  ·exact .inl (List.mem_cons_of_mem _ e)
  ·rcases List.mem_cons.1 e with e|e
   ·injection e with e1 e2
    injection e2 with e2 e3
    exact .inl (by rw[e1,e3];exact List.mem_cons_self)
   ·exact .inr ⟨t',List.mem_append_right _ e⟩
end
end
section
open Go.RowKit Go.Maps
theorem yM (w:World) (x:gC) (t:TypeId):∀j u,(fV x)[j]?=some u->(w.alloc (.cells #[.pointer (some (ak x.1 x.2))] t)).cell? (ak w.heap.size j)=some u:=fun j u hu=>by
 rw[cell_of_row _ w.heap.size j _ _ (0,0) (heap_alloc_new w _)]
 simpa[fV]using hu
def nh (u:World) (Bs b mb:Nat) (t:Tm) (e:Ending) (u':World):Prop:=
 ∃y:TV,e=.returned (aU y)/\aI u' (l4 u.heap.size u') y (gl fi [] t).1/\Fr (qw u Bs b mb) u u'
theorem qY {w:World} {Bs b mb:Nat} {l:List Int} (h:cB w Bs b mb l) {t:TypeId} {k:Nat} (hk:aR w t k) (h1:t≠84) (h2:t≠2) (e:qw w Bs b mb k):False:=by
 obtain⟨A,c,k1,k2⟩:=h.blk
 rcases e with rfl|rfl|⟨-,e⟩
 ·exact aR.ne hk ⟨_,k1⟩ h1 rfl
 ·obtain⟨cs,e⟩:=hk
  obtain⟨es,clock,ho,-⟩:=h.map.blk
  rw[ho]at e
  cases e
 ·exact aR.ne hk e h2 rfl
theorem yZ {w:World} {B0 U Bs b mb k:Nat} (h:B0<=U/\B0<=b/\B0<=mb/\B0<=Bs/\Bs<=U) (e:qw w Bs b mb k):B0<=k:=by
 rcases e with rfl|rfl|⟨e,-⟩<;>omega
theorem tB {u w w':World} {Bs b mb:Nat} (h:Fr (qw u Bs b mb) u w) (k:Fr (qw w Bs b mb) w w'):Fr (qw u Bs b mb) u w':=
 ⟨k.os.trans h.os,k.tape.trans h.tape,k.output.trans h.output,Nat.le_trans h.size k.size,fun i hi hn=>by
  refine(k.block i (Nat.lt_of_lt_of_le hi h.size) fun e=>hn ?_).trans (h.block i hi hn)
  rcases e with e|e|⟨e1,cs,e2⟩
  ·exact .inl e
  ·exact .inr (.inl e)
  ·rw[h.block i hi hn]at e2
   exact .inr (.inr ⟨e1,cs,e2⟩)⟩
theorem jP (Bs b mb:Nat) {w w':World} {l:List Int} (h:cB w Bs b mb l) (hk:∀k,k<w.heap.size->¬aR w 27 k->¬aR w 157 k->w'.heap[k]?=w.heap[k]?):cB w' Bs b mb l:=by
 obtain⟨A,c,k1,k2⟩:=h.blk
 have hn:∀t:TypeId,t≠84->¬aR w t b:=fun t ht e=>aR.ne e ⟨_,k1⟩ ht rfl
 have hm:∀t,¬aR w t mb:=fun t e=>by
  obtain⟨cs,e⟩:=e
  obtain⟨es,clock,ho,-⟩:=h.map.blk
  rw[ho]at e
  cases e
 refine h.keep (hk _ h.lt (hn _ (by decide)) (hn _ (by decide))) (hk _ h.map.lt (hm _) (hm _)) fun k _ hi=>hk k hi.lt (fun e=>aR.ne e hi (by decide) rfl) (fun e=>aR.ne e hi (by decide) rfl)
theorem ur (u:World) (B0:Nat) (Bs b mb:Nat) (x:TV) (t:Tm) (hx:aO u B0 x t) (hm:t.may=true) (hf:t.fits=true) (hsz:t.size<=1000000) (hs:cB u Bs b mb []) (hB:B0<=u.heap.size/\B0<=b/\B0<=mb/\B0<=Bs/\Bs<=u.heap.size):
 Calls prog 29 #[aU x,.func (Fn.func 30) #[ah b] #[]] u fun e u'=>nh u Bs b mb t e u':=by
 obtain⟨R,hR⟩:∃R:Ending->World->Prop,R=fun e u'=>nh u Bs b mb t e u':=⟨_,rfl⟩
 rw[<-hR]
 have HRR:=ad hR
 obtain⟨fin,hfin⟩:∃f,f=(gl fi [] t).2:=⟨_,rfl⟩
 obtain⟨T0,hT0⟩:∃T,T=(gl fi [] t).1:=⟨_,rfl⟩
 obtain⟨W,hW⟩:∃W,W=(((u.alloc (.cells #[ae x.k,ae x.n,af x.s,.slice x.A x.len x.cap] 27)).alloc (.cells #[ae 0,ae 0,ai,aj] 27)).alloc (.cells #[ah u.heap.size] 157)):=⟨_,rfl⟩
 have hbW:aE u W:=by rw[hW];exact(aB.alloc (by simp) _).alloc (by simp;omega) _
 have hsW:W.heap.size=u.heap.size+3:=by rw[hW];simp
 have hx0:W.heap[u.heap.size]?=some (.cells #[ae x.k,ae x.n,af x.s,.slice x.A x.len x.cap] 27 (0,0)):=by
  rw[hW,aw _ _ _ (by simp;omega),aw _ _ _ (by simp)]
  exact az
 have hr0:W.heap[u.heap.size+1]?=some (.cells #[ae 0,ae 0,ai,aj] 27 (0,0)):=by
  rw[hW,aw _ _ _ (by simp)]
  have:=heap_alloc_new (u.alloc (.cells #[ae x.k,ae x.n,af x.s,.slice x.A x.len x.cap] 27)) (.cells #[ae 0,ae 0,ai,aj] 27)
  rwa[World.size_alloc]at this
 have hrow0:aS W u.heap.size 157 1 fV (al (u.heap.size+1+1) 1 1) [(u.heap.size,0)]:=by
  have:=aS.one (B:=u.heap.size) (e:=157) ji ((u.alloc (.cells #[ae x.k,ae x.n,af x.s,.slice x.A x.len x.cap] 27)).alloc (.cells #[ae 0,ae 0,ai,aj] 27)) (u.heap.size,0) (by simp;omega)
  rw[hW]
  simpa[fV]using this
 have hI:BP u B0 (fun w l=>cB w Bs b mb l) fi fin T0 (qw u Bs b mb) [] [((u.heap.size,0),t,T0)] [] (al (u.heap.size+1+1) 1 1) W:=by
  obtain⟨g0,g1,g2,g3,-⟩:=aH hx0
  refine⟨⟨by simp,fun p hp=>?_,fun p T hp=>(by cases hp),fun p t' T hp=>?_,hB.1⟩,hrow0,hs.later hbW,Fr.of_below _ hbW,?_,fun y hy=>?_,?_,.inr ⟨t,by simp⟩,hr0,by omega⟩
  ·have hp:p=(u.heap.size,0):=by simpa using hp
   subst hp
   exact⟨⟨aC,by simp⟩,⟨_,hx0⟩,rfl⟩
  ·have hp:p=(u.heap.size,0)/\t'=t/\T=T0:=by simpa using hp
   obtain⟨rfl,rfl,rfl⟩:=hp
   exact⟨x,⟨g0,g1,g2,g3⟩,hx.keep aC fun k hk=>hbW.block k (by have:=hB.1;omega)⟩
  ·rw[hT0,hfin]
   simp only[List.map_cons,List.map_nil]
   rw[cJ,cJ]
  ·have hy:y=((u.heap.size,0),t,T0):=by simpa using hy
   subst hy
   exact⟨hm,hf⟩
  ·simp only[List.map_cons,List.map_nil,Tm.sizes,List.length_nil]
   omega
 have HI:=ad hI
 have HT0:=ad hT0
 have HB:=ad hB
 clear hI hx hm hf hsz hB hs hR hbW hsW hx0 hr0 hrow0 hfin hT0
 rw[aN]
 go_enter func29,ntmps29
 go_upto_region 2 with fail
 rw[<-hW]
 clear hW
 go_loopg [5] (t.size) (fun gk v wr=>∃(Dn:List (gC×Tm)) (Pd:List (gC×Tm×Tm)) (seen:List Int),Hid (BP u B0 (fun w l=>cB w Bs b mb l) fi fin T0 (qw u Bs b mb) Dn Pd seen v wr/\Tm.sizes (Pd.map (·.2.1))<=gk))
 case atStart=>exact⟨_,_,_,ad ⟨HI.out,by simp only[List.map_cons,List.map_nil,Tm.sizes];omega⟩⟩
 case round=>
  obtain⟨Dn,Pd,seen,HH⟩:=hrel
  clear HI
  obtain _|⟨⟨p,t1,T1⟩,Pd⟩:=Pd
  ·obtain⟨A1,c1,hv⟩:=HH.1.row.shape
   simp only[List.reverse_nil,List.map_nil,List.length_nil]at hv
   subst hv
   have hres:=HH.1.res
   obtain⟨y,hy1,hy2⟩:∃y:TV,cu wr (u.heap.size,0) y.k y.n y.s (.slice y.A y.len y.cap)/\aI wr (fun k=>BN u.heap.size k/\aR wr 27 k) y T0:=by
    rcases HH.1.root with e|⟨t',e⟩
    ·exact HH.1.ren.read T0.size T0 _ aC e
    ·cases e
   have y0:wr.cell? (ak u.heap.size 0)=some (ae y.k):=hy1.c0
   have y1:wr.cell? (ak u.heap.size 1)=some (ae y.n):=hy1.c1
   have y2:wr.cell? (ak u.heap.size 2)=some (af y.s):=hy1.c2
   have y3:wr.cell? (ak u.heap.size 3)=some (.slice y.A y.len y.cap):=hy1.c3
   obtain⟨br,hbr⟩:∃br,br=u.heap.size+1:=⟨_,rfl⟩
   rw[<-hbr]at hres⊢
   have HC4:=ad (bc hres rfl (ae y.k) (ae y.n) (af y.s) (.slice y.A y.len y.cap))
   have HFIN:Hid (nh u Bs b mb t (.returned (aU y)) ((((wr.setCell (ak br 0) (ae y.k)).setCell (ak br 1) (ae y.n)).setCell (ak br 2) (af y.s)).setCell (ak br 3) (.slice y.A y.len y.cap))):=ad (by
    refine⟨y,rfl,?_,?_⟩
    ·have h2:=hy2
     rw[HT0.out]at h2
     refine h2.keep (fun k hk=>⟨hk.1.1,?_⟩) (fun k hk=>aM _ _ _ _ (by have:=hk.1.2;omega))
     exact hk.2.keep (aM _ _ _ _ (by have:=hk.1.2;omega))
    ·have h1:=HH.1.fr
     exact(((h1.setCell (p:=(ak br 0)) (.inr (by simp only;omega)) _).setCell (p:=(ak br 1)) (.inr (by simp only;omega)) _).setCell (p:=(ak br 2)) (.inr (by simp only;omega)) _).setCell (p:=(ak br 3)) (.inr (by simp only;omega)) _)
   obtain⟨r0,r1,r2,r3,rf⟩:=aH hres
   clear hres hy1 hy2 hbr
   go_wp2_with fail
   obtain⟨z0,z1,z2,z3,-⟩:=aH HC4.out
   refine⟨rfl,.agg #[ae y.k,ae y.n,af y.s,.slice y.A y.len y.cap],by simp[results,results29,go_sem,z0,z1,z2,z3],?_⟩
   rw[HRR.out]
   exact HFIN.out
  ·have hR:=HH.1
   obtain⟨pb,po⟩:=p
   have hloc:=hR.ren.loc (pb,po) (List.mem_append_right _ (by simp))
   obtain⟨x1,hx1,ht1⟩:=hR.ren.pd (pb,po) t1 T1 (List.mem_cons_self ..)
   obtain⟨hT1,heq1⟩:=hR.top
   obtain⟨hm1,hf1⟩:=hR.ok _ (List.mem_cons_self ..)
   obtain⟨k1,k2,k3,k4,k5,-⟩:=ht1.open
   have hlist:(((pb,po),t1,T1)::Pd).reverse.map (·.1)=Pd.reverse.map (·.1)++[(pb,po)]:=by simp
   obtain⟨L,hL⟩:∃L,L=Pd.reverse.map (·.1):=⟨_,rfl⟩
   have hrow:=hR.row
   rw[hlist,<-hL]at hrow
   obtain⟨gw,cap,rfl,hg0,hg1,hcap,hcs⟩:=hrow.cells ji (by simp)
   have e0:wr.cell? (ak gw L.length)=some (.pointer (some (ak pb po))):=by
    have:=(hcs L.length (pb,po) (by simp) 0 _ rfl).1
    simpa using this
   rw[List.length_append,List.length_cons,List.length_nil]at hrow hcap⊢
   have hfront:=aS.front ji hrow
   have hL9:L.length<=1000000:=by
    have h1:=hR.sz
    rw[List.map_cons,Tm.sizes]at h1
    have h2:=jI (Pd.map (·.2.1))
    rw[hL,List.length_map,List.length_reverse]
    rw[List.length_map]at h2
    omega
   obtain⟨iy,hcs0⟩:=hloc.2.1
   have hfz:∀o,wr.frozen? ⟨pb,o,none⟩=false:=fun o=>by simp[World.frozen?,hcs0]
   have q0:wr.cell? (ak pb po)=some (ae x1.k):=hx1.c0
   have q1:wr.cell? (ak pb (po+1))=some (ae x1.n):=hx1.c1
   have q3:wr.cell? (ak pb (po+3))=some (.slice x1.A x1.len x1.cap):=hx1.c3
   have hrl:L.length<L.length+1:=Nat.lt_succ_self _
   have HLOC:=ad hloc
   have HX1:=ad (aD hx1 ht1)
   have HT1:=ad (aD hT1 heq1)
   have HM1:=ad (aD hm1 hf1)
   have HK1:=ad (aD k1 (aD k2 (aD k3 (aD k4 k5))))
   have HFR:=ad hfront
   have HLL:=ad hL
   have HROW:=ad hrow
   clear hR hloc hx1 ht1 hT1 heq1 hm1 hf1 k1 k2 k3 k4 k5 hlist hL hrow hcs hfront hcs0 hg0 hg1
   by_cases hkv:x1.k=1
   ·have b1:(x1.k==1)=true:=by rw[hkv];rfl
    have hvar:=CL HM1.1 (HK1.1.trans hkv)
    have hl0:x1.len=0:=by rw[<-HK1.2.2.2.1,hvar.2];rfl
    have b2:((x1.len:Int)==0)=true:=by rw[hl0];rfl
    have hs0:x1.s=[]:=by rw[<-HK1.2.2.1,hvar.1]
    have hn64:pi x1.n:=by
     have:=(iF.mk HM1.1 HM1.2).n
     rw[HK1.2.1]at this
     exact this
    have hsl9:seen.length<=100000000:=by have:=HH.1.sz;omega
    obtain⟨idx,hidx⟩:∃i,i=(fi seen x1.n).1:=⟨_,rfl⟩
    obtain⟨seen2,hseen2⟩:∃i,i=(fi seen x1.n).2:=⟨_,rfl⟩
    have hren:gl fi seen t1=(.mk 1 idx [] [],seen2):=by
     obtain⟨kk,nn,ss,ll⟩:=t1
     obtain⟨r1,r2,r3,r4,-⟩:=HK1.out
     have r1:kk=x1.k:=r1
     have r2:nn=x1.n:=r2
     obtain⟨r5,r6⟩:=hvar
     have r5:ss=[]:=r5
     have r6:ll=[]:=r6
     subst r1 r2 r5 r6
     rw[gl,if_pos hkv,hidx,hseen2]
    have HNUM:Hid (Calls prog 30 #[ah b,ae x1.n] wr fun e W1=>e=.returned (ae idx)/\cB W1 Bs b mb seen2/\Fr (qw wr Bs b mb) wr W1):=ad (by
     rw[hidx,hseen2]
     exact wR wr Bs b mb seen HH.1.q x1.n hn64 hsl9 (by have:=HH.1.fr.size;have:=HB.out;omega))
    have HREN:=ad hren
    have HV:=ad (aD hkv (aD hvar (aD hl0 hs0)))
    have HS2:Hid (seen2.length<=seen.length+1):=ad (by rw[hseen2];exact BK _ _)
    clear hvar hs0 hn64 hsl9 hidx hseen2 hren hkv hl0
    go_wp2_with fail
    refine HNUM.mono ?_
    rintro e W1 ⟨rfl,hq1,hf1⟩
    have hnS:∀k,aR wr 27 k->¬(qw wr Bs b mb) k:=fun k hk e=>qY HH.1.q hk (by decide) (by decide) e
    have hnP:∀k,aR wr 157 k->¬(qw wr Bs b mb) k:=fun k hk e=>qY HH.1.q hk (by decide) (by decide) e
    have hpb:=hf1.block pb HLOC.2.1.lt (hnS _ HLOC.2.1)
    have hx2:=HX1.1.keep hpb
    have hfz1:∀o,W1.frozen? ⟨pb,o,none⟩=false:=fun o=>(World.frozen?_of_block (w:=wr) (a:=⟨pb,o,none⟩) hpb).trans (hfz o)
    have HFZ:=ad hfz1
    have q1':W1.cell? (ak pb (po+1))=some (ae x1.n):=hx2.c1
    have q3':W1.cell? (ak pb (po+3))=some (.slice x1.A x1.len x1.cap):=hx2.c3
    have HNX:Hid (BP u B0 (fun w l=>cB w Bs b mb l) fi fin T0 (qw u Bs b mb) (((pb,po),T1)::Dn) Pd seen2 (al gw L.length cap) ((W1.setCell (ak pb (po+1)) (ae idx)).setCell (ak pb (po+3)) aj)/\Tm.sizes (Pd.map (·.2.1))<=gk-1/\0<gk):=ad (by
     have hBB:=HB.out
     have hT:=HT1.1
     rw[HREN.out]at hT
     have hrest:=HT1.2
     rw[HREN.out]at hrest
     have hB0u:B0<=u.heap.size:=HH.1.ren.low
     have hpB:B0<=pb:=Nat.le_trans hB0u HLOC.1.1
     have huw:u.heap.size<=wr.heap.size:=HH.1.fr.size
     have hown:∀k,(al gw L.length cap).ownBlock=some k->aR wr 157 k/\k≠pb:=fun k hk=>by
      have h1:=HFR.ty hk
      exact⟨h1,fun e=>by rw[e]at h1;exact aR.ne h1 HLOC.2.1 (by decide) rfl⟩
     have hset:∀k,k≠pb->((W1.setCell (ak pb (po+1)) (ae idx)).setCell (ak pb (po+3)) aj).heap[k]?=W1.heap[k]?:=fun k hk=>by rw[av _ _ _ _ hk,av _ _ _ _ hk]
     have h0:=HH.1.next (w2:=(W1.setCell (ak pb (po+1)) (ae idx)).setCell (ak pb (po+3)) aj) (((eK.of_fr hf1 (by omega) (fun k hk=>yZ hBB hk) (fun k hk e=>hnS k e hk) (pb,po)).trans (eK.set W1 (p:=(pb,po)) hpB HLOC.2.2 1 (by omega) _)).trans (eK.set _ (p:=(pb,po)) hpB HLOC.2.2 3 (by omega) _)) 0 0 aj (al gw L.length cap) seen2 HS2.out
      (by rw[hT];exact Nat.zero_le _) (by rw[hT];have:=(hx2.set1 idx).set3 aj;rw[HV.1,HV.2.2.2]at this;exact this) (by rw[hT,HV.2.1.2];rfl) (.inl ⟨by rw[hT];rfl,rfl⟩) (fun e=>absurd (by rw[hT];rfl) e) (fun i hi=>by rw[hT]at hi;exact absurd hi (Nat.not_lt_zero _))
      (by
        have:T1.args.length=0:=by rw[hT];rfl
        rw[this,<-HLL.out]
        simp only[List.range_zero,List.map_nil,List.reverse_nil,List.append_nil]
        exact HFR.keep fun k hk=>(hset k (hown k hk).2).trans (hf1.block k (HFR.lt k hk).2 (hnP _ (hown k hk).1)))
      (jP Bs b mb hq1 fun k hk e1 e2=>hset k fun e=>e1 (by rw[e];exact HLOC.2.1.keep hpb))
      (((tB HH.1.fr hf1).setCell (p:=(ak pb (po+1))) (.inr HLOC.1.1) _).setCell (p:=(ak pb (po+3))) (.inr HLOC.1.1) _)
      (by rw[HV.2.1.2,hT];exact hrest)
      (by
        have hbrB:u.heap.size+1≠pb:=fun e=>HLOC.1.2 e.symm
        rw[hset _ hbrB,hf1.block _ (by have:=HH.1.big;omega) (hnS _ ⟨_,HH.1.res⟩)])
      (by rw[World.size_setCell,World.size_setCell];exact hf1.size)
     have h1:T1.args.length=0:=by rw[hT];rfl
     rw[h1]at h0
     have h2:=HH.2
     rw[List.map_cons,Tm.sizes]at h2
     have h2:t1.size+Tm.sizes (Pd.map (·.2.1))<=gk:=h2
     have h3:=bL t1
     exact⟨h0,by omega,by omega⟩)
    have hgk:=HNX.2.2
    clear hq1 hf1 hnS hnP hpb hx2 hfz1 q0 q1 q3 hfz e0
    have hfz1:=HFZ.out
    go_wp2_with fail
    go_roundg (gk-1)
    case rel=>exact⟨_,_,_,ad ⟨HNX.1,HNX.2.1⟩⟩
    all_goals omega
   have b1:(x1.k==1)=false:=beq_eq_false_iff_ne.2 hkv
   by_cases hl0:x1.len=0
   ·have b2:((x1.len:Int)==0)=true:=by rw[hl0];rfl
    have hargs:t1.args=[]:=List.eq_nil_of_length_eq_zero (by rw[HK1.2.2.2.1,hl0])
    have hren:gl fi seen t1=(t1,seen):=by
     have hk:t1.k≠1:=by rw[HK1.1];exact hkv
     obtain⟨kk,nn,ss,ll⟩:=t1
     have r6:ll=[]:=hargs
     subst r6
     rw[gl,if_neg (show¬kk=1 from hk),cJ]
    have HREN:=ad hren
    have HARG:=ad (aD hargs hl0)
    have HNX:Hid (BP u B0 (fun w l=>cB w Bs b mb l) fi fin T0 (qw u Bs b mb) (((pb,po),T1)::Dn) Pd seen (al gw L.length cap) (wr.setCell (ak pb (po+3)) aj)/\Tm.sizes (Pd.map (·.2.1))<=gk-1/\0<gk):=ad (by
     have hT:=HT1.1
     rw[hren]at hT
     have hT:T1=t1:=hT
     have hrest:=HT1.2
     rw[hren]at hrest
     obtain⟨r1,r2,r3,r4,r5⟩:=HK1.out
     have hB0u:B0<=u.heap.size:=HH.1.ren.low
     have hpB:B0<=pb:=Nat.le_trans hB0u HLOC.1.1
     have hown:∀k,(al gw L.length cap).ownBlock=some k->k≠pb:=fun k hk e=>by
      have h1:=HFR.ty hk
      rw[e]at h1
      exact aR.ne h1 HLOC.2.1 (by decide) rfl
     have hset:∀k,k≠pb->(wr.setCell (ak pb (po+3)) aj).heap[k]?=wr.heap[k]?:=fun k hk=>av _ _ _ _ hk
     have hc:=HX1.1.set3 aj
     rw[<-r1,<-r2,<-r3,<-hT]at hc
     have h0:=HH.1.next (w2:=wr.setCell (ak pb (po+3)) aj) (eK.set wr (p:=(pb,po)) hpB HLOC.2.2 3 (by omega) _) 0 0 aj (al gw L.length cap) seen (Nat.le_succ _)
      (by rw[hT,r3];exact r5) hc (by rw[hT]) (.inl ⟨by rw[hT];exact hargs,rfl⟩) (fun e=>absurd (by rw[hT];exact hargs) e) (fun i hi=>by rw[hT,hargs]at hi;exact absurd hi (Nat.not_lt_zero _))
      (by
        have:T1.args.length=0:=by rw[hT,hargs];rfl
        rw[this,<-HLL.out]
        simp only[List.range_zero,List.map_nil,List.reverse_nil,List.append_nil]
        exact HFR.keep fun k hk=>hset k (hown k hk))
      (jP Bs b mb HH.1.q fun k hk e1 e2=>hset k fun e=>e1 (by rw[e];exact HLOC.2.1))
      (HH.1.fr.setCell (p:=(ak pb (po+3))) (.inr HLOC.1.1) _)
      (by rw[hT,hargs];exact hrest)
      (hset _ fun e=>HLOC.1.2 e.symm)
      (by rw[World.size_setCell];exact aC)
     have h1:T1.args.length=0:=by rw[hT,hargs];rfl
     rw[h1]at h0
     have h2:=HH.2
     rw[List.map_cons,Tm.sizes]at h2
     have h2:t1.size+Tm.sizes (Pd.map (·.2.1))<=gk:=h2
     have h3:=bL t1
     exact⟨h0,by omega,by omega⟩)
    have hgk:=HNX.2.2
    have hfz3:=hfz (po+3)
    clear hargs hren hl0 hkv
    go_wp2_with fail
    go_roundg (gk-1)
    case rel=>exact⟨_,_,_,ad ⟨HNX.1,HNX.2.1⟩⟩
    all_goals omega
   have b2:((x1.len:Int)==0)=false:=beq_eq_false_iff_ne.2 (by omega)
   obtain⟨nA,hnA⟩:∃n,n=x1.len:=⟨_,rfl⟩
   have hn0:0<nA:=by omega
   obtain⟨xs,ab,ao,hxs,hAe,hab,hsrc,htms⟩:=B7 HX1.2 (by omega)
   rw[<-hnA]at hxs
   have hn255:nA<=1000000:=by
    have h1:=HH.1.sz
    rw[List.map_cons,Tm.sizes]at h1
    have h1:seen.length+(t1.size+Tm.sizes (Pd.map (·.2.1)))<=1000000:=h1
    have h2:=bE t1
    have h3:=jI t1.args
    have h4:=HK1.2.2.2.1
    omega
   obtain⟨g,hg⟩:∃g,g=wr.heap.size:=⟨_,rfl⟩
   have hmk:=gH wr nA hn255
   obtain⟨V0,hV0⟩:∃V,V=wr.alloc (.cells ((List.replicate nA eV).flatMap aJ).toArray 27):=⟨_,rfl⟩
   obtain⟨V1,hV1⟩:∃V,V=wr.alloc (.cells (xs.flatMap aJ).toArray 27):=⟨_,rfl⟩
   rw[<-hV0,<-hg]at hmk
   have hcp:(Builtin.copy_ #[25,25] 3 #[al g nA nA,.slice (some (ak ab ao)) nA x1.cap]).run prog V0=.ok (ae (nA:Int)) V1:=by
    obtain⟨i0,z0,t1',t2',t3',t4',t5'⟩:=ft
    have hcl:(xs.flatMap aJ).length=nA*4:=by rw[jf,hxs]
    have hzl:(((List.replicate nA eV).flatMap aJ).toArray).size=nA*4:=by rw[List.size_toArray,jf,List.length_replicate]
    have:=jE (P:=prog) V0 25 25 3 27 4 g nA nA ⟨ab,ao,none⟩ nA x1.cap ((List.replicate nA eV).flatMap aJ).toArray 27 (xs.flatMap aJ) underlying25 (by rw[t1',Option.map_some,t3'])
     (by rw[hV0,hg];exact az) (by rw[hcl,show Nat.min nA nA=nA from Nat.min_self nA]) (fun j v hv=>?_) (by rw[hcl,hzl];exact aC) (fun v hv=>by
       rw[List.mem_flatMap]at hv
       obtain⟨y,-,hy⟩:=hv
       exact gy y v hy)
    ·rw[this,show Nat.min nA nA=nA from Nat.min_self nA]
     congr 1
     rw[hV0,hV1,hg,hcl,List.drop_of_length_le (by rw[Array.length_toList,hzl];exact aC),List.append_nil]
     exact mU wr _ _ _
    ·obtain⟨y,y1,y2⟩:=AV xs j v hv
     have:=hsrc (j/4) y y1 (j%4) v y2
     rw[rm,hV0,World.cell?_of_block (w:=wr) (a:=⟨ab,ao+j,none⟩) (aw _ _ _ (by have:=HH.1.fr.size;have:=HH.1.ren.low;simp only;omega))]
     rwa[show ao+j/4*4+j%4=ao+j by omega]at this
   obtain⟨V2,hV2⟩:∃V,V=V1.setCell (ak pb (po+3)) (al g nA nA):=⟨_,rfl⟩
   have hpbl:pb<wr.heap.size:=HLOC.2.1.lt
   have hV0s:pb<V0.heap.size:=by rw[hV0];simp;omega
   have hV1s:V1.heap.size=wr.heap.size+1:=by rw[hV1];simp
   have hV1o:∀k,k<wr.heap.size->V1.heap[k]?=wr.heap[k]?:=fun k hk=>by rw[hV1];exact aw _ _ _ hk
   have hV0o:∀k,k<wr.heap.size->V0.heap[k]?=wr.heap[k]?:=fun k hk=>by rw[hV0];exact aw _ _ _ hk
   have hg1:V1.heap[g]?=some (.cells (xs.flatMap aJ).toArray 27 (0,0)):=by rw[hV1,hg];exact az
   have q3':V0.cell? (ak pb (po+3))=some (.slice x1.A x1.len x1.cap):=(World.cell?_of_block (w:=wr) (a:=⟨pb,po+3,none⟩) (hV0o pb hpbl)).trans q3
   have q3'':V1.cell? (ak pb (po+3))=some (.slice x1.A x1.len x1.cap):=(World.cell?_of_block (w:=wr) (a:=⟨pb,po+3,none⟩) (hV1o pb hpbl)).trans q3
   have hfz1:V1.frozen? ⟨pb,po+3,none⟩=false:=(World.frozen?_of_block (w:=wr) (a:=⟨pb,po+3,none⟩) (hV1o pb hpbl)).trans (hfz _)
   have hw1:IntKind.i64.wrap ((nA:Int)-1)=(nA:Int)-1:=IntWalk.i64_in _ (by omega)
   rw[hAe,<-hnA]at q3 q3' q3''
   rw[<-hnA]at b2
   have hgw:=HFR.ty (g:=gw) rfl
   have hgwB:=(HFR.lt gw rfl).1
   have hgne:gw≠pb:=fun e=>by have h1:=hgw;rw[e]at h1;exact aR.ne h1 HLOC.2.1 (by decide) rfl
   have hgw2:aR V2 157 gw:=by rw[hV2];exact(hgw.keep (hV1o gw hgw.lt)).set _ _ _
   have hrow2:aS V2 u.heap.size 157 1 fV (al gw L.length cap) L:=HFR.keep fun k hk=>by
    have hk:gw=k:=by simpa[Value.ownBlock]using hk
    subst hk
    rw[hV2,av _ _ _ _ hgne]
    exact hV1o _ hgw.lt
   have HROW2:=ad hrow2
   have HCP:=ad hcp
   have HN:=ad (aD hnA (aD hxs (aD hn255 (aD hg hAe))))
   have HSRC:=ad htms
   have HVV:=ad (aD hV1o (aD hg1 (aD hV1s hV2)))
   have HGW:=ad (aD hgw (aD hgwB (aD hgne hgw2)))
   have HV1:=ad hV1
   have HKV:=ad (aD hkv hl0)
   have hn1:nA<=1000000:=hn255
   clear hnA hxs hAe hab hsrc htms hn255 hcp hV1o hV0o hg1 hV1s hrow2 hgw hgwB hgne hgw2 hkv hl0 hpbl
   go_upto_region 10 with fail
   rw[<-HN.2.2.2.1,<-hV0]
   clear hV0 hmk hg hV1 hV2
   have hcp:=HCP.out
   go_wp2_with fail
   clear hcp
   rw[<-HVV.2.2.2]
   clear q0 q1 q3 q3' q3'' hfz hfz1 hV0s e0
   go_loopw [5,8] (fun v i wi=>∃(j gq cq:Nat),j<=nA/\i=ae ((j:Int)-1)/\v=al gq (L.length+(nA-j)) cq/\Hid (aS wi u.heap.size 157 1 fV v (L++sK g nA j)/\Fr (fun k=>k=gw) V2 wi/\(gq=gw\/V2.heap.size<=gq))) (fun _ i _=>(intOf i+1).toNat)
   case atStart=>exact⟨nA,gw,cap,aC,rfl,by rw[Nat.sub_self,Nat.add_zero],ad ⟨by rw[zq,List.append_nil];exact HROW2.out,Fr.refl _ _,.inl rfl⟩⟩
   case round=>
    obtain⟨wl,rfl⟩:∃wl:World,wl=wr:=⟨_,rfl⟩
    obtain⟨j,gq,cq,hj,rfl,rfl,HJ⟩:=hrel
    obtain _|j:=j
    ·have HNX:Hid (BP u B0 (fun w l=>cB w Bs b mb l) fi fin T0 (qw u Bs b mb) (((pb,po),T1)::Dn) ((List.range T1.args.length).map (fun i=>((g,i*4),t1.args.getD i aQ,T1.args.getD i aQ))++Pd) seen (al gq (L.length+(nA-0)) cq) wl/\Tm.sizes (((List.range T1.args.length).map (fun i=>(((g,i*4),t1.args.getD i aQ,T1.args.getD i aQ):gC×Tm×Tm))++Pd).map (·.2.1))<=gk-1/\0<gk):=ad (by
      obtain⟨r1,r2,r3,r4,r5⟩:=HK1.out
      obtain⟨hnA,hxs,-,hg,hAe⟩:=HN.out
      obtain⟨hV1o,hg1,hV1s,hV2⟩:=HVV.out
      obtain⟨hgw,hgwB,hgne,hgw2⟩:=HGW.out
      obtain⟨hrowJ,hfrJ,-⟩:=HJ.out
      have hk:t1.k≠1:=by rw[r1];exact HKV.1
      have hren:gl fi seen t1=(.mk t1.k t1.n t1.s (cJ fi seen t1.args).1,(cJ fi seen t1.args).2):=by
       obtain⟨kk,nn,ss,ll⟩:=t1
       rw[gl,if_neg (show¬kk=1 from hk)]
       rfl
      have hT:=HT1.1
      rw[hren]at hT
      have hT:T1=.mk t1.k t1.n t1.s (cJ fi seen t1.args).1:=hT
      have hrest:=HT1.2
      rw[hren]at hrest
      have hTa:T1.args=(cJ fi seen t1.args).1:=by rw[hT];rfl
      have hTl:T1.args.length=t1.args.length:=by rw[hTa,oX]
      have hTn:T1.args.length=nA:=by rw[hTl,r4,hnA]
      have hpbl:pb<wr.heap.size:=HLOC.2.1.lt
      have hB0u:B0<=u.heap.size:=HH.1.ren.low
      have hpB:B0<=pb:=Nat.le_trans hB0u HLOC.1.1
      have huw:u.heap.size<=wr.heap.size:=HH.1.fr.size
      have hV2o:∀k,k≠pb->V2.heap[k]?=V1.heap[k]?:=fun k hk=>by rw[hV2];exact av _ _ _ _ hk
      have hV2s:V2.heap.size=V1.heap.size:=by rw[hV2,World.size_setCell]
      have hJo:∀k,k<V2.heap.size->k≠gw->wl.heap[k]?=V2.heap[k]?:=fun k h1 h2=>hfrJ.block k h1 h2
      have hst:eK wr wl B0 (pb,po):=by
       refine eK.trans (w':=V1) ?_ (eK.trans (w':=V2) ?_ ?_)
       ·exact⟨fun q _ _ _ _ _ _ e3 hc=>hc.keep (hV1o _ e3.lt),fun k hk=>hk.keep (hV1o _ hk.lt),fun k hk=>hV1o k (by omega)⟩
       ·rw[hV2]
        exact eK.set V1 (p:=(pb,po)) hpB HLOC.2.2 3 (by omega) _
       ·exact eK.of_fr hfrJ (by omega) (fun k e=>by omega) (fun k e h=>by rw[e]at h;exact aR.ne hgw2 h (by decide) rfl) _
      have V1os:V1.os=wr.os/\V1.tape=wr.tape/\V1.output=wr.output:=by rw[HV1.out];exact⟨rfl,rfl,rfl⟩
      have hgl:wl.heap[g]?=some (.cells (xs.flatMap aJ).toArray 27 (0,0)):=by
       rw[hJo g (by omega) (fun e=>by have:=hgw.lt;omega),hV2o g (by omega)]
       exact hg1
      have hc0:cu V1 (pb,po) x1.k x1.n x1.s (.slice x1.A x1.len x1.cap):=HX1.1.keep (hV1o pb hpbl)
      have hc:=hc0.set3 (al g nA nA)
      have hc':cu V2 (pb,po) x1.k x1.n x1.s (al g nA nA):=by rw[hV2];exact hc
      have hcl:=hc'.keep (hJo pb (by rw[hV2s];omega) (fun e=>hgne e.symm))
      have e1:T1.k=x1.k:=by rw[hT];exact r1
      have e2:T1.n=x1.n:=by rw[hT];exact r2
      have e3:T1.s=x1.s:=by rw[hT];exact r3
      rw[<-e1,<-e2,<-e3]at hcl
      have h0:=HH.1.next hst g nA (al g nA nA) (al gq (L.length+(nA-0)) cq) seen (Nat.le_succ _)
       (by rw[e3];exact r5) hcl hTl (.inr (by rw[hTn])) (fun _=>⟨⟨by omega,fun e=>by have:=HH.1.big;omega⟩,⟨_,hgl⟩,fun q hq e=>by have:=hq.lt;omega⟩)
       (fun i hi=>by
         obtain⟨y,hy⟩:∃y,xs[i]?=some y:=⟨_,au (by omega)⟩
         refine⟨y,?_,((HSRC.out i y hy).keep aC fun k hk=>hst.low k hk)⟩
         have hcell:∀j u,(aJ y)[j]?=some u->wl.cell? (ak g (i*4+j))=some u:=fun j u hu=>by
          rw[cell_of_row wl g (i*4+j) _ _ (0,0) hgl]
          have:=dU bh xs i j y u hy hu
          simpa using this
         exact⟨hcell 0 _ rfl,hcell 1 _ rfl,hcell 2 _ rfl,hcell 3 _ rfl⟩)
       (by
         rw[hTn,<-HLL.out]
         rw[CF]at hrowJ
         exact hrowJ)
       (jP Bs b mb HH.1.q fun k hk e1 e2=>by rw[hJo k (by omega) (fun e=>e2 (by rw[e];exact hgw)),hV2o k (fun e=>e1 (by rw[e];exact HLOC.2.1))];exact hV1o k hk)
       (Fr.beyond (Fr.beyond HH.1.fr (Fr.refl (fun _=>False) wr) (fun _ e=>e.elim)) (⟨by rw[hfrJ.os,hV2];exact V1os.1,by rw[hfrJ.tape,hV2];exact V1os.2.1,by rw[hfrJ.output,hV2];exact V1os.2.2,by have:=hfrJ.size;omega,fun k hk hn=>by
         have h1:k≠pb:=fun e=>hn (.inl e)
         have h2:k≠gw:=fun e=>hn (.inr e)
         rw[hJo k (by omega) h2,hV2o k h1]
         exact hV1o k hk⟩:Fr (fun k=>k=pb\/k=gw) wr wl) (fun k e=>by
         rcases e with e|e
         ·rw[e];exact HLOC.1.1
         ·rw[e];exact hgwB))
       (by rw[hTa,om,hrest])
       (by
         have hb1:u.heap.size+1≠pb:=fun e=>HLOC.1.2 e.symm
         have hb2:u.heap.size+1≠gw:=fun e=>by have h1:=hgw;rw[<-e]at h1;exact aR.ne h1 ⟨_,HH.1.res⟩ (by decide) rfl
         have hb3:=HH.1.big
         rw[hJo _ (by omega) hb2,hV2o _ hb1]
         exact hV1o _ (by omega))
       (by have:=hfrJ.size;omega)
      have h2:=HH.2
      rw[List.map_cons,Tm.sizes]at h2
      have h2:t1.size+Tm.sizes (Pd.map (·.2.1))<=gk:=h2
      have h3:=bE t1
      refine⟨h0,?_,by omega⟩
      rw[List.map_append,kL,List.map_map,hTl]
      have h5:((List.range t1.args.length).map ((fun x:gC×Tm×Tm=>x.2.1)∘fun i=>((g,i*4),t1.args.getD i aQ,T1.args.getD i aQ)))=t1.args:=mz t1.args aQ
      rw[h5]
      omega)
     have hgk:=HNX.2.2
     go_wp2_with fail
     go_roundg (gk-1)
     case rel=>exact⟨_,_,_,ad ⟨HNX.1,HNX.2.1⟩⟩
     all_goals omega
    ·have hw2:IntKind.i64.wrap ((((j+1:Nat):Int)-1)-1)=(j:Int)-1:=by rw[show(((j+1:Nat):Int)-1)-1=(j:Int)-1 by omega];exact IntWalk.i64_in _ (by omega)
     have hi0:(((j+1:Nat):Int)-1)=(j:Int):=by omega
     rw[hi0]at hw2⊢
     have hge:decide ((0:Int)<=(j:Int))=true:=by simp
     obtain⟨i0,z0,p1,p2,p3,p4,p5⟩:=AE
     have HIN:=ad (aD p1 (aD p2 (aD p3 (aD p4 p5))))
     clear p1 p2 p3 p4 p5 hi0
     obtain⟨lq,hlq⟩:∃n,n=L.length+(nA-(j+1)):=⟨_,rfl⟩
     have HLQ:Hid (lq=L.length+(nA-(j+1))/\lq=(L++sK g nA (j+1)).length/\lq+1=L.length+(nA-j)/\lq<=3000000):=ad (by rw[List.length_append,CP];omega)
     rw[<-hlq]at HJ⊢
     clear hlq
     have HJA:Hid (aS wl u.heap.size 157 1 fV (al gq lq cq) (L++sK g nA (j+1))):=ad HJ.1
     have HU:=ad (show u.heap.size<=wl.heap.size from by have h1:=HJ.2.1.size;have h2:=HVV.2.2.1;have h3:=HH.1.fr.size;have h4:V2.heap.size=V1.heap.size:=(by rw[HVV.2.2.2,World.size_setCell]);omega)
     go_wp2_with (at_builtin;refine fh rfl _ _ 158 rfl _ u.heap.size 157 i0 z0 1 8 fV underlying158 HIN.1 HIN.2.1 HIN.2.2.1 HIN.2.2.2.1 HIN.2.2.2.2 (by decide) ji xE (al gq lq cq) (L++sK g nA (j+1)) (g,j*4) rfl (HJA.alloc _) _ _ rfl (fun j1 u1 hu=>yM _ _ _ j1 u1 hu) (by have:=HLQ.out;unfold maxLen;omega) (by have:=HLQ.out;omega) (by have:=HU.out;simp;omega) ?_;intro g5 cap5 w5 hR5 hg5 hl5;have HR5:=ad hR5;have HG5:=ad hg5;have HL5:=ad hl5;clear hR5 hg5 hl5)
     have HNX:Hid (aS w5 u.heap.size 157 1 fV (al g5 (L.length+(nA-j)) cap5) (L++sK g nA j)/\Fr (fun k=>k=gw) V2 w5/\(g5=gw\/V2.heap.size<=g5)/\(L++sK g nA (j+1)).length+1=L.length+(nA-j)):=ad (by
      obtain⟨q1,q2,q3,q4⟩:=HLQ.out
      obtain⟨j1,j2,j3⟩:=HJ.out
      have hR:=HR5.out
      have hl:=HL5.out
      rw[<-q2,q3,List.append_assoc,<-zT g nA j (by omega)]at hR
      refine⟨hR,?_,?_,by omega⟩
      ·refine(Fr.alloc j2 _).grown HG5.out fun q e=>?_
       have e:gq=q:=by simpa[Value.ownBlock]using e
       rcases j3 with e2|e2
       ·exact .inl (by omega)
       ·exact .inr (by omega)
      ·rcases hl with e|e
       ·have e:gq=g5:=by simpa[Value.ownBlock]using e
        rw[<-e]
        exact j3
       ·right
        have:=j2.size
        rw[World.size_alloc]at e
        omega)
     have hln:L.length+(sK g nA (j+1)).length+1=L.length+(nA-j):=by have:=HNX.2.2.2;rwa[List.length_append]at this
     go_wp2_with fail
     rw[hln]
     clear hln
     exact⟨⟨j,g5,cap5,by omega,rfl,rfl,ad ⟨HNX.1,HNX.2.1,HNX.2.2.1⟩⟩,by simp only[intOf];omega⟩
theorem qE (w:World) (B0:Nat) (x:TV) (t:Tm) (hx:aO w B0 x t) (hm:t.may=true) (hf:t.fits=true) (hsz:t.size<=1000000) (hB:B0<=w.heap.size):
 Calls prog 17 #[aU x] w fun e w'=>∃y:TV,e=.returned (aU y)/\aI w' (l4 w.heap.size w') y (gl fi [] t).1/\aE w w':=by
 have hmm:=@run_makeMap prog
 have HX:=ad (aD hx (aD hm (aD hf (aD hsz hB))))
 clear hx hm hf hsz hB
 obtain⟨R,hR⟩:∃R:Ending->World->Prop,R=fun e w'=>∃y:TV,e=.returned (aU y)/\aI w' (l4 w.heap.size w') y (gl fi [] t).1/\aE w w':=⟨_,rfl⟩
 rw[<-hR]
 have HRR:=ad hR
 clear hR
 rw[aN]
 go_enter func17,ntmps17
 go_wp2_with fail
 obtain⟨V,hV⟩:∃V,V=(w.alloc (.cells #[ae x.k,ae x.n,af x.s,.slice x.A x.len x.cap] 27)).alloc (.cells #[ae 0,ae 0,ai,aj] 27):=⟨_,rfl⟩
 rw[<-hV]
 have hVb:aE w V:=by rw[hV];exact aB.alloc (by simp) _
 have hVs:V.heap.size=w.heap.size+2:=by rw[hV];simp
 have hVr:V.heap[w.heap.size+1]?=some (.cells #[ae 0,ae 0,ai,aj] 27 (0,0)):=by
  rw[hV]
  have:=heap_alloc_new (w.alloc (.cells #[ae x.k,ae x.n,af x.s,.slice x.A x.len x.cap] 27)) (.cells #[ae 0,ae 0,ai,aj] 27)
  rwa[World.size_alloc]at this
 clear hV
 obtain⟨W,hW⟩:∃W,W=(V.alloc (.map #[] 0)).alloc (.cells #[aj,.map (some (w.heap.size+1+1))] 84):=⟨_,rfl⟩
 rw[<-hW]
 have hWV:aE V W:=by rw[hW];exact aB.alloc (by simp) _
 have hWs:W.heap.size=w.heap.size+4:=by rw[hW];simp;omega
 have hbl:W.heap[w.heap.size+1+1+1]?=some (.cells #[aj,.map (some (w.heap.size+1+1))] 84 (0,0)):=by
  have:=heap_alloc_new (V.alloc (.map #[] 0)) (.cells #[aj,.map (some (w.heap.size+1+1))] 84)
  rw[World.size_alloc,hVs]at this
  rw[hW]
  exact this
 have hmp:aW W (w.heap.size+1+1) kp kp (fM []):=by
  have:=(aW.made (ek:=kp) (ev:=kp) V).alloc (.cells #[aj,.map (some (w.heap.size+1+1))] 84)
  rw[hVs]at this
  rw[hW]
  exact this
 have hS:cB W W.heap.size (w.heap.size+1+1+1) (w.heap.size+1+1) []:=⟨⟨none,0,hbl,aS.nil _ _ _ _ _⟩,hmp,by omega,by omega,fun n hn=>by cases hn⟩
 have hbW:aE w W:=hVb.trans (hWV.mono hVb.size)
 have hWr:W.heap[w.heap.size+1]?=some (.cells #[ae 0,ae 0,ai,aj] 27 (0,0)):=(hWV.block _ (by omega)).trans hVr
 have hcall:=ur W w.heap.size W.heap.size (w.heap.size+1+1+1) (w.heap.size+1+1) x t (HX.1.keep HX.2.2.2.2 fun k hk=>hbW.block k (by have:=HX.2.2.2.2;omega)) HX.2.1 HX.2.2.1 HX.2.2.2.1 hS ⟨by omega,by omega,by omega,by omega,aC⟩
 rw[aN]at hcall
 refine hcall.mono ?_
 intro e w2 hp
 obtain⟨y,rfl,hy,hfr⟩:=hp
 have h2r:w2.heap[w.heap.size+1]?=some (.cells #[ae 0,ae 0,ai,aj] 27 (0,0)):=(hfr.block _ (by omega) (fun e=>by rcases e with e|e|⟨e,-⟩<;>omega)).trans hWr
 obtain⟨br,hbr⟩:∃br,br=w.heap.size+1:=⟨_,rfl⟩
 rw[<-hbr]at h2r⊢
 have HC4:=ad (bc h2r rfl (ae y.k) (ae y.n) (af y.s) (.slice y.A y.len y.cap))
 have HFIN:Hid (R (.returned (aU y)) ((((w2.setCell (ak br 0) (ae y.k)).setCell (ak br 1) (ae y.n)).setCell (ak br 2) (af y.s)).setCell (ak br 3) (.slice y.A y.len y.cap))):=ad (by
  rw[HRR.out]
  refine⟨y,rfl,?_,?_⟩
  ·refine hy.keep (fun k hk=>⟨by have:=hk.1;omega,?_⟩) (fun k hk=>aM _ _ _ _ (by have:=hk.1;omega))
   exact hk.2.keep (aM _ _ _ _ (by have:=hk.1;omega))
  ·have h1:aE w w2:=hbW.trans (hfr.below (by omega) fun k hk e=>by rcases e with e|e|⟨e,-⟩<;>omega)
   exact(((h1.setCell (by simp only;omega) _).setCell (by simp only;omega) _).setCell (by simp only;omega) _).setCell (by simp only;omega) _)
 obtain⟨r0,r1,r2,r3,rf⟩:=aH h2r
 clear h2r hy hfr hbr hcall hS hmp hbl hWr hbW hWV hVb hVr hVs hWs hW hmm
 rw[aN]
 go_wp2_with fail
 obtain⟨z0,z1,z2,z3,-⟩:=aH HC4.out
 refine⟨rfl,.agg #[ae y.k,ae y.n,af y.s,.slice y.A y.len y.cap],by simp[results,results17,go_sem,z0,z1,z2,z3],?_⟩
 exact HFIN.out
open Go.Maps
abbrev bA (t:Tm):Tm:=(cE t []).1
mutual
theorem qr:∀(t:Tm) (l:List Int),t.may=true->(gl fi l t).1=(cE t (fM l)).1/\(cE t (fM l)).2=fM (gl fi l t).2
 | .mk k n s r,l,h=>by
  obtain⟨m1,-,-⟩:=eX h
  by_cases hk:k=1
  ·subst hk
   obtain⟨rfl,rfl⟩:=m1 rfl
   rw[gl,if_pos rfl,cE,if_pos rfl,li]
   unfold fi vI
   by_cases hn:n∈l
   ·rw[if_pos hn,if_pos hn]
    exact⟨rfl,rfl⟩
   ·rw[if_neg hn,if_neg hn]
    have hl:(fM l).length=l.length:=by rw[<-List.length_map (f:=(·.1)),lc]
    refine⟨by simp only;rw[hl,List.idxOf_eq_length hn],by simp only;rw[hl,oF]⟩
  ·obtain⟨h1,h2⟩:=qP r l (eY h)
   rw[gl,if_neg hk,cE,if_neg hk]
   exact⟨by simp only;rw[h1],h2⟩
theorem qP:∀(r:List Tm) (l:List Int),(∀t∈r,t.may=true)->(cJ fi l r).1=(cA r (fM l)).1/\(cA r (fM l)).2=fM (cJ fi l r).2
 |[],l,_=>by rw[cJ,cA];exact⟨rfl,rfl⟩
 |t::r,l,h=>by
  obtain⟨h1,h2⟩:=qr t l (h t (List.mem_cons_self ..))
  obtain⟨g1,g2⟩:=qP r (gl fi l t).2 (fun x hx=>h x (List.mem_cons_of_mem _ hx))
  rw[cJ,cA,h2]
  exact⟨by simp only;rw[h1,g1],g2⟩
end
theorem vl {f:Int->Int} {V:Int->Prop} (hf:∀a b,V a->V b->f a=f b->a=b) {n:Int} (hn:V n):∀m:List (Int×Int),(∀x∈m,V x.1)->aP (m.map fun x=>(f x.1,x.2)) (f n)=aP m n
 |[],_=>rfl
 |x::r,h=>by
  have ih:=vl hf hn r (fun y hy=>h y (List.mem_cons_of_mem _ hy))
  unfold aP at ih⊢
  by_cases hx:x.1=n
  ·rw[List.map_cons,List.find?_cons_of_pos (by simp[hx]),List.find?_cons_of_pos (by simp[hx])]
   rfl
  ·rw[List.map_cons,List.find?_cons_of_neg (by simpa using fun e=>hx (hf _ _ (h x (List.mem_cons_self ..)) hn e)),List.find?_cons_of_neg (by simpa using hx)]
   exact ih
mutual
theorem vA {f:Int->Int} {V:Int->Prop} (hf:∀a b,V a->V b->f a=f b->a=b):∀(t:Tm) (m:List (Int×Int)),t.may=true->(∀n∈dP t,V n)->(∀x∈m,V x.1)->cE (fd f t) (m.map fun x=>(f x.1,x.2))=((cE t m).1,(cE t m).2.map fun x=>(f x.1,x.2))/\∀x∈(cE t m).2,V x.1
 | .mk k n s l,m,hm,ht,hv=>by
  obtain⟨m1,-,-⟩:=eX hm
  by_cases hk:k=1
  ·subst hk
   obtain⟨rfl,rfl⟩:=m1 rfl
   have hn:V n:=ht n (by simp[dP,gm])
   rw[fd,if_pos rfl,oM,cE,if_pos rfl,cE,if_pos rfl,vl hf hn m hv]
   cases aP m n with
   |some a=>exact⟨rfl,hv⟩
   |none=>
    refine⟨by simp,fun x hx=>?_⟩
    rcases List.mem_append.1 hx with hx|hx
    ·exact hv x hx
    ·rw[List.mem_singleton]at hx
     rw[hx]
     exact hn
  ·obtain⟨h1,h2⟩:=vj hf l m (eY hm) (fun p hp=>ht p (by rw[dP];exact List.mem_append_right _ hp)) hv
   rw[fd,if_neg hk,cE,if_neg hk,cE,if_neg hk,h1]
   exact⟨rfl,h2⟩
theorem vj {f:Int->Int} {V:Int->Prop} (hf:∀a b,V a->V b->f a=f b->a=b):∀(l:List Tm) (m:List (Int×Int)),(∀t∈l,t.may=true)->(∀n∈gm l,V n)->(∀x∈m,V x.1)->cA (oM f l) (m.map fun x=>(f x.1,x.2))=((cA l m).1,(cA l m).2.map fun x=>(f x.1,x.2))/\∀x∈(cA l m).2,V x.1
 |[],m,_,_,hv=>by rw[oM,cA,cA];exact⟨rfl,hv⟩
 |t::r,m,hm,ht,hv=>by
  obtain⟨h1,h2⟩:=vA hf t m (hm t (List.mem_cons_self ..)) (fun p hp=>ht p (by rw[gm];exact List.mem_append_left _ hp)) hv
  obtain⟨g1,g2⟩:=vj hf r (cE t m).2 (fun x hx=>hm x (List.mem_cons_of_mem _ hx)) (fun p hp=>ht p (by rw[gm];exact List.mem_append_right _ hp)) h2
  rw[oM,cA,cA,h1,g1]
  exact⟨rfl,g2⟩
end
section
variable {t:Tm}
theorem nt {f:Int->Int} (hm:t.may=true) (hf:∀a∈dP t,∀b∈dP t,f a=f b->a=b):bA (fd f t)=bA t:=by
 have h:=(vA (V:=fun n=>n∈dP t) (fun a b ha hb=>hf a ha b hb) t [] hm (fun _ h=>h) (fun x hx=>by cases hx)).1
 rw[List.map_nil]at h
 show(cE (fd f t) []).1=(cE t []).1
 rw[h]
theorem jJ (hm:t.may=true):∃f:Int->Int,bA t=fd f t/\(∀n,0<=f n)/\(∀a∈dP t,∀b∈dP t,f a=f b->a=b)/\∀a∈dP t,f a<t.size:=by
 obtain⟨h1,-,h3⟩:=uQ t [] hm ⟨fun i x h=>by simp at h,fun x h=>by cases h⟩
 obtain⟨q1,q2⟩:=h3 _ h1 ⟨[],by simp⟩
 refine⟨_,q1,vK h1,fun a ha b hb e=>?_,fun a ha=>?_⟩
 ·obtain⟨u,hu⟩:=q2 a ha
  obtain⟨v,hv⟩:=q2 b hb
  rw[gx h1 hu,gx h1 hv]at e
  have:=h1.inj hu hv e
  injection this
 ·obtain⟨u,hu⟩:=q2 a ha
  obtain⟨i,hi⟩:=List.mem_iff_getElem?.1 hu
  rw[gx h1 hu]
  have e1:u=(i:Int):=h1.at' i _ hi
  have e2:=(aq hi).1
  have e3:=qU t []
  simp only[List.length_nil]at e3
  omega
theorem Cs (hm:t.may=true):bA (bA t)=bA t:=by
 obtain⟨f,e,-,h,-⟩:=jJ hm
 rw[e,nt hm h,e]
theorem gQ (hm:t.may=true):(bA t).may=true:=by
 obtain⟨f,e,h,-,-⟩:=jJ hm
 rw[e]
 exact me f h t hm
theorem d6 (hm:t.may=true):(bA t).size=t.size:=by
 obtain⟨f,e,-,-,-⟩:=jJ hm
 rw[e,jZ]
theorem yo (hm:t.may=true):∀n∈dP (bA t),0<=n/\n<t.size:=fun n hn=>by
 obtain⟨f,e,h,-,h2⟩:=jJ hm
 rw[e]at hn
 obtain⟨m,h3,rfl⟩:=tu f t n hn
 exact⟨h m,h2 m h3⟩
end
mutual
theorem qv (f:Int->Int):∀t:Tm,t.fits=true->(∀n∈dP t,-9223372036854775808<=f n/\f n<=9223372036854775807)->(fd f t).fits=true
 | .mk k n s l,h,hv=>by
  rw[Tm.fits,Bool.and_eq_true,decide_eq_true_eq]at h
  rw[fd,Tm.fits,Bool.and_eq_true,decide_eq_true_eq]
  refine⟨?_,qX f l h.2 fun p hp=>hv p (by rw[dP];exact List.mem_append_right _ hp)⟩
  by_cases hk:k=1
  ·rw[if_pos hk]
   exact hv n (by rw[dP,if_pos hk];exact List.mem_append_left _ (List.mem_singleton.2 rfl))
  ·rw[if_neg hk]
   exact h.1
theorem qX (f:Int->Int):∀l:List Tm,Tm.fitss l=true->(∀n∈gm l,-9223372036854775808<=f n/\f n<=9223372036854775807)->Tm.fitss (oM f l)=true
 |[],_,_=>rfl
 |t::r,h,hv=>by
  rw[Tm.fitss,Bool.and_eq_true]at h
  rw[oM,Tm.fitss,Bool.and_eq_true]
  exact⟨qv f t h.1 fun p hp=>hv p (by rw[gm];exact List.mem_append_left _ hp),qX f r h.2 fun p hp=>hv p (by rw[gm];exact List.mem_append_right _ hp)⟩
end
theorem nB {t:Tm} (hm:t.may=true) (hf:t.fits=true) (hs:t.size<=2000):(bA t).fits=true:=by
 obtain⟨f,e,h,-,h2⟩:=jJ hm
 rw[e]
 exact qv f t hf fun n hn=>⟨by have:=h n;omega,by have:=h2 n hn;omega⟩
structure lT (N:Nat) (p q:PS):Prop where
 old:∀i,i<p.cs.length->q.cs[i]?=p.cs[i]?
 len:p.cs.length<=q.cs.length
 fr:∀x∈q.fr,N<=x.2
 new:∀(i:Nat) c,p.cs.length<=i->q.cs[i]?=some c->∀a∈c.args,N<=a
theorem lT.refl {N:Nat} {p:PS} (h:∀x∈p.fr,N<=x.2):lT N p p:=⟨fun _ _=>rfl,aC,h,fun i c hi hc=>absurd (aq hc).1 (by omega)⟩
theorem lT.trans {N:Nat} {p q r:PS} (h:lT N p q) (k:lT N q r):lT N p r:=⟨fun i hi=>(k.old i (Nat.lt_of_lt_of_le hi h.len)).trans (h.old i hi),Nat.le_trans h.len k.len,k.fr,fun i c hi hc a ha=>by
 by_cases hq:i<q.cs.length
 ·rw[k.old i hq]at hc
  exact h.new i c hi hc a ha
 ·exact k.new i c (by omega) hc a ha⟩
theorem lT.snoc {N:Nat} {p:PS} {c:Sc} {e:List (Int×Nat)} (hc:∀a∈c.args,N<=a) (h:∀x∈p.fr,N<=x.2) (he:∀x∈e,N<=x.2):lT N p ⟨p.cs++[c],p.fr++e⟩:=
 ⟨fun i hi=>List.getElem?_append_left hi,by simp,fun x hx=>(List.mem_append.1 hx).elim (h x) (he x),fun i d hi hd a ha=>by
  rw[List.getElem?_append_right hi]at hd
  have hz:i-p.cs.length=0:=by have:=(aq hd).1;simpa using this
  rw[hz]at hd
  injection hd with hd
  rw[<-hd]at ha
  exact hc a ha⟩
mutual
theorem nF (N:Nat):∀(t:Tm) (p:PS),N<=p.cs.length->(∀x∈p.fr,N<=x.2)->N<=(aV t p).1/\lT N p (aV t p).2
 | .mk k n s l,p,hN,hf=>by
  rw[aV]
  by_cases h1:k=1
  ·rw[if_pos h1]
   cases hg:aP p.fr n with
   |some a=>exact⟨hf _ (dA hg),.refl hf⟩
   |none=>exact⟨hN,.snoc (fun a ha=>by cases ha) hf fun x hx=>by rw[List.mem_singleton]at hx;rw[hx];exact hN⟩
  ·rw[if_neg h1]
   by_cases h4:k=4
   ·rw[if_pos h4]
    have h0:lT N p ⟨p.cs++[⟨4,0,s,[],none⟩],p.fr++[]⟩:=.snoc (fun a ha=>by cases ha) hf fun x hx=>by cases hx
    rw[List.append_nil]at h0
    obtain⟨g1,g2⟩:=sw N l ⟨p.cs++[⟨4,0,s,[],none⟩],p.fr⟩ (Nat.le_trans hN h0.len) hf
    have g3:=h0.trans g2
    refine⟨hN,fun i hi=>?_,by simpa using g3.len,g3.fr,fun i c hi hc a ha=>?_⟩
    ·rw[List.getElem?_set_ne (by omega)]
     exact g3.old i hi
    ·by_cases he:p.cs.length=i
     ·subst he
      have hl:=(aq hc).1
      rw[List.length_set]at hl
      rw[List.getElem?_set_self hl]at hc
      injection hc with hc
      rw[<-hc]at ha
      exact g1 a ha
     ·rw[List.getElem?_set_ne he]at hc
      exact g3.new i c hi hc a ha
   ·rw[if_neg h4]
    have h0:lT N p ⟨p.cs++[⟨k,n,s,[],none⟩],p.fr++[]⟩:=.snoc (fun a ha=>by cases ha) hf fun x hx=>by cases hx
    rw[List.append_nil]at h0
    exact⟨hN,h0⟩
theorem sw (N:Nat):∀(l:List Tm) (p:PS),N<=p.cs.length->(∀x∈p.fr,N<=x.2)->(∀a∈(bW l p).1,N<=a)/\lT N p (bW l p).2
 |[],p,_,hf=>by rw[bW];exact⟨fun a ha=>(by cases ha),.refl hf⟩
 |t::r,p,hN,hf=>by
  obtain⟨h1,h2⟩:=nF N t p hN hf
  obtain⟨g1,g2⟩:=sw N r (aV t p).2 (Nat.le_trans hN h2.len) h2.fr
  rw[bW]
  exact⟨fun a ha=>by
   rcases List.mem_cons.1 ha with rfl|ha
   ·exact h1
   ·exact g1 a ha,h2.trans g2⟩
end
theorem ic.above {cs cs':List Sc} {N:Nat} (hN:∀j,N<=j->cs'[j]?=cs[j]?) (h0:∀(j:Nat) c,N<=j->cs[j]?=some c->c.to=none/\∀a∈c.args,N<=a) {i:Nat} {t:Tm} (h:ic cs i t):N<=i->ic cs' i t:=by
 induction h with
 |@var i j c hr hc hk=>
  intro hi
  obtain⟨d,hd⟩:∃d,cs[i]?=some d:=⟨_,au hr.lt⟩
  have hd0:=(h0 i d hi hd).1
  obtain rfl:=hr.fn (.here hd hd0)
  rw[hd]at hc
  injection hc with hc
  subst hc
  exact .var (.here ((hN _ hi).trans hd) hd0) ((hN _ hi).trans hd) hk
 |@part i j c l hr hc hk hl ha ih=>
  intro hi
  obtain⟨d,hd⟩:∃d,cs[i]?=some d:=⟨_,au hr.lt⟩
  have hd0:=(h0 i d hi hd).1
  obtain rfl:=hr.fn (.here hd hd0)
  rw[hd]at hc
  injection hc with hc
  subst hc
  exact .part (.here ((hN _ hi).trans hd) hd0) ((hN _ hi).trans hd) hk hl fun q a t hq ht=>ih q a t hq ht ((h0 _ d hi hd).2 a (List.mem_of_getElem? hq))
section
variable {cs cs':List Sc} {bs':List Nat} {R:Bool×Int} {i b:Nat} {x y:Sc}
theorem dN {a j:Nat} {c:Sc} (hc:cs[a]?=some c) (h0:c.to=none) (h:bP cs a j):j=a:=h.fn (.here hc h0)
theorem Ci (hx:cs[i]?=some x) (hx0:x.to=none) (hk:x.k=1) (hy:cs[b]?=some y) (hy0:y.to=none) (hk':y.k≠1) (hu:l6 false cs [] [(i,b)] 0 R cs' bs'):R=(true,0)/\cs'=cP cs i x (some b)/\bs'=[i]:=by
 cases hu with
 |tired hw=>omega
 |same ka kb hr=>
  obtain rfl:=dN hx hx0 ka
  obtain rfl:=dN hy hy0 kb
  rw[hx]at hy
  injection hy with hy
  exact absurd (hy▸hk) hk'
 |bind ka kb hij hv hz hkz hw hr=>
  obtain rfl:=dN hx hx0 ka
  obtain rfl:=dN hy hy0 kb
  rcases hv with⟨rfl,rfl⟩|⟨rfl,rfl⟩
  ·rw[hx]at hz
   injection hz with hz
   subst hz
   cases hr with
   |done=>exact⟨rfl,rfl,rfl⟩
  ·rw[hy]at hz
   injection hz with hz
   exact absurd (hz▸hkz) hk'
 |occurs hs=>cases hs
 |clash ka kb hz hz' hkz hkz' hn=>
  obtain rfl:=dN hx hx0 ka
  rw[hx]at hz
  injection hz with hz
  exact absurd (hz▸hk) hkz
 |args ka kb hz hz' hkz hkz' hn hr=>
  obtain rfl:=dN hx hx0 ka
  rw[hx]at hz
  injection hz with hz
  exact absurd (hz▸hk) hkz
theorem Bh (hne:i≠b) (hx:cs[i]?=some x) (hx0:x.to=none) (hk:x.k≠1) (hxa:x.args=[]) (hy:cs[b]?=some y) (hy0:y.to=none) (hk':y.k≠1) (hu:l6 false cs [] [(i,b)] 0 R cs' bs'):R.2=0/\(R.1=true->cs'=cs/\bs'=[])/\(R.1=true↔x.k=y.k/\x.n=y.n/\x.s=y.s/\y.args=[]):=by
 cases hu with
 |tired hw=>omega
 |same ka kb hr=>
  obtain rfl:=dN hx hx0 ka
  obtain rfl:=dN hy hy0 kb
  exact absurd rfl hne
 |bind ka kb hij hv hz hkz hw hr=>
  obtain rfl:=dN hx hx0 ka
  obtain rfl:=dN hy hy0 kb
  rcases hv with⟨rfl,rfl⟩|⟨rfl,rfl⟩
  ·rw[hx]at hz
   injection hz with hz
   exact absurd (hz▸hkz) hk
  ·rw[hy]at hz
   injection hz with hz
   exact absurd (hz▸hkz) hk'
 |occurs hs=>cases hs
 |clash ka kb hz hz' hkz hkz' hn=>
  obtain rfl:=dN hx hx0 ka
  obtain rfl:=dN hy hy0 kb
  rw[hx]at hz
  rw[hy]at hz'
  injection hz with hz
  injection hz' with hz'
  subst hz hz'
  refine⟨rfl,fun e=>(by cases e),fun e=>(by cases e),fun e=>absurd ⟨e.1,e.2.1,e.2.2.1,by rw[hxa,e.2.2.2]⟩ hn⟩
 |args ka kb hz hz' hkz hkz' hn hr=>
  obtain rfl:=dN hx hx0 ka
  obtain rfl:=dN hy hy0 kb
  rw[hx]at hz
  rw[hy]at hz'
  injection hz with hz
  injection hz' with hz'
  subst hz hz'
  rw[hxa]at hr hn
  cases hr with
  |done=>exact⟨rfl,fun _=>⟨rfl,rfl⟩,fun _=>⟨hn.1,hn.2.1,hn.2.2.1,List.length_eq_zero_iff.1 hn.2.2.2.symm⟩,fun _=>rfl⟩
end
end
end Go.Proofs.YtigeofkllldilaaGreatDoor
