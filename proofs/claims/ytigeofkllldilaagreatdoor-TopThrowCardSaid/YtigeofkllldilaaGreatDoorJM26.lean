import Derived.Test.YtigeofkllldilaaGreatDoorJM13
import Derived.Test.YtigeofkllldilaaGreatDoorJM16
set_option maxHeartbeats 32000000
set_option maxRecDepth 100000
set_option linter.unusedSectionVars false
open Go.Proofs.Tryz
namespace Go.Proofs.YtigeofkllldilaaGreatDoor
section
open Go.RowKit
theorem xC {x y:TV} (h:∀j:Nat,j<4->(aJ x)[j]?=(aJ y)[j]?):x=y:=by
 obtain⟨k,n,s,A,l,c⟩:=x
 obtain⟨k',n',s',A',l',c'⟩:=y
 have h0:=h 0 (by omega)
 have h1:=h 1 (by omega)
 have h2:=h 2 (by omega)
 have h3:=h 3 (by omega)
 simp[aJ]at h0 h1 h2 h3
 obtain⟨rfl,rfl,rfl⟩:=h3
 subst h0 h1 h2
 rfl
structure fW (w w':World) (pb po:Nat) (A':Option Addr) (g n c:Nat) (y:TV):Prop where
 at':∀(j:Nat) u,(aJ y)[j]?=some u->w.cell? (ak pb (po+j))=some u
 len:y.len=n
 old:∀(b o:Nat) v,(b=pb->o≠po+3)->w.cell? (ak b o)=some v->w'.cell? (ak b o)=some v
 new:w'.cell? (ak pb (po+3))=some (.slice A' n c)
 at0:0<n->A'=some (ak g 0)
 copy:∀(b off j:Nat) v,y.A=some (ak b off)->j<n*4->w.cell? (ak b (off+j))=some v->w'.cell? (ak g j)=some v
theorem fW.cell {w w':World} {pb po:Nat} {A':Option Addr} {g n c:Nat} {y:TV} (h:fW w w' pb po A' g n c y) (b o:Nat) (z:TV) (hz:∀(j:Nat) u,(aJ z)[j]?=some u->w.cell? (ak b (o+j))=some u):
 (b=pb/\o=po/\z=y)\/∀(j:Nat) u,(aJ z)[j]?=some u->w'.cell? (ak b (o+j))=some u:=by
 by_cases he:b=pb/\o=po
 ·obtain⟨rfl,rfl⟩:=he
  refine .inl ⟨rfl,rfl,xC fun j hj=>?_⟩
  have h1:(aJ z)[j]?=some (aJ z)[j]:=au (by rw[bh];exact hj)
  have h2:(aJ y)[j]?=some (aJ y)[j]:=au (by rw[bh];exact hj)
  have h3:=hz j _ h1
  have h4:=h.at' j _ h2
  rw[h1,h2,<-h3,<-h4]
 ·refine .inr fun j u hu=>h.old b (o+j) u (fun e1 e2=>?_) (hz j u hu)
  have h3:=hz j u hu
  subst e1
  have h4:=h.at' 3 _ rfl
  rw[<-e2,h3]at h4
  injection h4 with h4
  subst h4
  obtain _|_|_|_|j:=j
  ·simp[aJ]at hu
  ·simp[aJ]at hu
  ·simp[aJ]at hu
  ·exact he ⟨rfl,by omega⟩
  ·simp[aJ]at hu
theorem fW.term {w w':World} {pb po g n c:Nat} {A':Option Addr} {y:TV} (h:fW w w' pb po A' g n c y) {S S':Nat->Prop} (hS:∀b,S b->S' b) (hg:0<n->S' g):
 ∀(m:Nat) (t:Tm),t.size<=m->(∀x,aI w S x t->aI w' S' x t)/\(aI w S y t->aI w' S' {y with A:=A',cap:=c} t)
 |0,.mk k n s l,hm=>by simp only[Tm.size]at hm;omega
 |m+1,t,hm=>by
  have ih:∀(i:Nat) (ti:Tm),t.args[i]?=some ti->(∀x,aI w S x ti->aI w' S' x ti)/\(aI w S y ti->aI w' S' {y with A:=A',cap:=c} ti):=fun i ti hi=>by
   refine fW.term h hS hg m ti ?_
   have h1:ti.size<=Tm.sizes t.args:=by
    have:∀(l:List Tm) (q:Tm),q∈l->q.size<=Tm.sizes l:=by
     intro l
     induction l with
     |nil=>intro q hq;cases hq
     |cons a r ihr=>
      intro q hq
      rw[Tm.sizes]
      rcases List.mem_cons.1 hq with rfl|hq
      ·omega
      ·have:=ihr q hq;omega
    exact this _ _ (List.mem_of_getElem? hi)
   obtain⟨k,n,s,l⟩:=t
   have h2:1+Tm.sizes l<=m+1:=by simpa only[Tm.size]using hm
   have h1:ti.size<=Tm.sizes l:=h1
   omega
  have hcell:=h.cell
  have hone:∀(b o:Nat) (z:TV) (ti:Tm) (i:Nat),t.args[i]?=some ti->aI w S z ti->(∀(j:Nat) u,(aJ z)[j]?=some u->w.cell? (ak b (o+j))=some u)→
   ∃z',aI w' S' z' ti/\∀(j:Nat) u,(aJ z')[j]?=some u->w'.cell? (ak b (o+j))=some u:=fun b o z ti i hi ht hz=>by
   rcases hcell b o z hz with⟨rfl,rfl,rfl⟩|h1
   ·refine⟨_,(ih i ti hi).2 ht,fun j u hu=>?_⟩
    obtain _|_|_|_|j:=j
    ·exact h.old _ _ u (fun _=>by omega) (hz 0 u hu)
    ·exact h.old _ _ u (fun _=>by omega) (hz 1 u hu)
    ·exact h.old _ _ u (fun _=>by omega) (hz 2 u hu)
    ·injection hu with hu
     subst hu
     rw[h.len]
     exact h.new
    ·simp[aJ]at hu
   ·exact⟨z,(ih i ti hi).1 z ht,h1⟩
  have pick:∀(args:List Tm) (Q:Nat->TV->Tm->Prop),(∀(i:Nat) ti,args[i]?=some ti->∃z,Q i z ti)->∃zs:List TV,zs.length=args.length/\∀(i:Nat) z ti,zs[i]?=some z->args[i]?=some ti->Q i z ti:=fun args=>by
   induction args with
   |nil=>exact fun Q _=>⟨[],rfl,fun i z ti hz=>by simp at hz⟩
   |cons a r ihr=>
    intro Q hQ
    obtain⟨z,hz⟩:=hQ 0 a rfl
    obtain⟨zs,h1,h2⟩:=ihr (fun i=>Q (i+1)) fun i ti hi=>hQ (i+1) ti hi
    refine⟨z::zs,by simp[h1],fun i z' ti hz' hti=>?_⟩
    obtain _|i:=i
    ·injection hz' with hz'
     injection hti with hti
     subst hz' hti
     exact hz
    ·exact h2 i z' ti hz' hti
  refine⟨fun x hx=>?_,fun hy=>?_⟩
  ·cases hx with
   |mk _ args xs h1 h2 h3 hc ht=>
    obtain⟨zs,g1,g2⟩:=pick args (fun i z ti=>aI w' S' z ti/\∃b off,x.A=some (ak b off)/\S' b/\∀(j:Nat) u,(aJ z)[j]?=some u->w'.cell? (ak b (off+i*4+j))=some u) fun i ti hi=>by
     have hlt:i<xs.length:=by rw[h1,<-h2];exact(aq hi).1
     obtain⟨b,off,e1,e2,e3⟩:=hc i _ (au hlt)
     obtain⟨z',q1,q2⟩:=hone b (off+i*4) _ ti i hi (ht i _ ti (au hlt) hi) e3
     exact⟨z',q1,b,off,e1,hS b e2,q2⟩
    refine .mk x args zs (by rw[g1,h2]) h2 h3 (fun i z hz=>?_) fun i z ti hz hi=>(g2 i z ti hz hi).1
    have hlt:i<args.length:=by rw[<-g1];exact(aq hz).1
    exact(g2 i z _ hz (au hlt)).2
  ·cases hy with
   |mk _ args xs h1 h2 h3 hc ht=>
    have hn0:∀(i:Nat) (z:TV),xs[i]?=some z->0<n:=fun i z hz=>by have:=(aq hz).1;rw[<-h.len,<-h1];omega
    refine .mk {y with A:=A',cap:=c} args xs h1 h2 h3 (fun i z hz=>⟨g,0,h.at0 (hn0 i z hz),hg (hn0 i z hz),fun j u hu=>?_⟩) fun i z ti hz hi=>(ih i ti hi).1 z (ht i z ti hz hi)
    obtain⟨b,off,e1,-,e3⟩:=hc i z hz
    have hj:=(aq hu).1
    rw[bh]at hj
    have hi:=(aq hz).1
    rw[Nat.zero_add]
    exact h.copy b off (i*4+j) u e1 (by rw[<-h.len,<-h1];omega) (by rw[<-Nat.add_assoc];exact e3 j u hu)
theorem fW.at {w w':World} {pb po:Nat} {A':Option Addr} {g n c:Nat} {y:TV} (h:fW w w' pb po A' g n c y) {S S':Nat->Prop} (hS:∀b,S b->S' b) (hg:0<n->S' g) {b o:Nat} {z:TV} {t:Tm} (hz:∀(j:Nat) u,(aJ z)[j]?=some u->w.cell? (ak b (o+j))=some u) (ht:aI w S z t):
 ∃z',(∀(j:Nat) u,(aJ z')[j]?=some u->w'.cell? (ak b (o+j))=some u)/\aI w' S' z' t:=by
 rcases h.cell b o z hz with⟨rfl,rfl,rfl⟩|h1
 ·refine⟨_,fun j u hu=>?_,(h.term hS hg t.size t aC).2 ht⟩
  obtain _|_|_|_|j:=j
  ·exact h.old _ _ u (fun _=>by omega) (hz 0 u hu)
  ·exact h.old _ _ u (fun _=>by omega) (hz 1 u hu)
  ·exact h.old _ _ u (fun _=>by omega) (hz 2 u hu)
  ·injection hu with hu
   subst hu
   rw[h.len]
   exact h.new
  ·simp[aJ]at hu
 ·exact⟨z,h1,(h.term hS hg t.size t aC).1 z ht⟩
open Go.RowKit Go.Maps
theorem AV:∀(xs:List TV) (j:Nat) (v:Value),(xs.flatMap aJ)[j]?=some v->∃y,xs[j/4]?=some y/\(aJ y)[j%4]?=some v
 |[],j,v,h=>by simp at h
 |x::r,j,v,h=>by
  rw[List.flatMap_cons]at h
  by_cases hj:j<4
  ·rw[List.getElem?_append_left (by rw[bh];exact hj)]at h
   exact⟨x,by rw[show j/4=0 by omega];rfl,by rw[show j%4=j by omega];exact h⟩
  ·rw[List.getElem?_append_right (by rw[bh];omega),bh]at h
   obtain⟨y,h1,h2⟩:=AV r (j-4) v h
   refine⟨y,?_,?_⟩
   ·rw[show j/4=(j-4)/4+1 by omega,List.getElem?_cons_succ]
    exact h1
   ·rw[show j%4=(j-4)%4 by omega]
    exact h2
theorem rm (b o j:Nat):(⟨b,o,none⟩:Addr).add j=⟨b,o+j,none⟩:=by unfold Addr.add;split<;>simp_all
theorem jf (xs:List TV):(xs.flatMap aJ).length=xs.length*4:=by
 induction xs with
 |nil=>rfl
 |cons x r ih=>
  rw[List.flatMap_cons,List.length_append,ih,bh,List.length_cons]
  omega
theorem jE {P:Program} (w:World) (dT sT ty elem:TypeId) (sz g dLen dCap:Nat) (a:Addr) (sLen sCap:Nat) (cur:Array Value) (t:TypeId) (cs:List Value)
 (hu:P.underlying dT=some (.slice elem)) (hs:(P.info? elem).map (·.size)=some sz)
 (hg:w.heap[g]?=some (.cells cur t (0,0))) (hn:cs.length=Nat.min sLen dLen*sz)
 (hsrc:∀j v,cs[j]?=some v->w.cell? (a.add j)=some v) (hfit:cs.length<=cur.size) (h1:∀v∈cs,v.oneCell'=true):
 (Builtin.copy_ #[dT,sT] ty #[al g dLen dCap,.slice (some a) sLen sCap]).run P w=
   .ok (goInt (Nat.min sLen dLen)) (w.setRow g (cs++cur.toList.drop cs.length).toArray):=by
 have hl:=run_loadCells_list (P:=P) w a cs hsrc
 have hst:=run_storeCells_at P g 0 t cs 0 cur w hg (by simpa using hfit) h1
 cases hq:P.info? elem with
 |none=>simp[hq]at hs
 |some i=>
  have hi:i.size=sz:=by simpa[hq]using hs
  simp[Builtin.copy_,run_underlying hu,Builtin.lenOf,Builtin.firstCells,sizeOf,typeInfo,hq,hi,<-hn,hl,hst]
theorem mU (w:World) (c0 cs:Array Value) (e:TypeId):(w.alloc (.cells c0 e)).setRow w.heap.size cs=w.alloc (.cells cs e):=by
 unfold World.setRow World.alloc
 congr 1
 refine Array.ext_getElem? fun i=>?_
 rw[Array.getElem?_modify,Array.getElem?_push,Array.getElem?_push]
 by_cases h:w.heap.size=i
 ·subst h
  simp
 ·have h2:¬i=w.heap.size:=fun e=>h e.symm
  rw[if_neg h,if_neg h2,if_neg h2]
theorem ud (w:World) (zs:List TV) (b off m cap:Nat) (hz:zs.length=m) (hs:∀(i:Nat) z,zs[i]?=some z->∀(j:Nat) v,(aJ z)[j]?=some v->w.cell? (ak b (off+i*4+j))=some v):
 (Builtin.copy_ #[25,25] 3 #[al w.heap.size m m,.slice (some (ak b off)) m cap]).run prog (w.alloc (.cells ((List.replicate m eV).flatMap aJ).toArray 27))=.ok (ae (m:Int)) (w.alloc (.cells (zs.flatMap aJ).toArray 27)):=by
 obtain⟨i0,z0,t1',t2',t3',t4',t5'⟩:=ft
 have hcl:(zs.flatMap aJ).length=m*4:=by rw[jf,hz]
 have hzl:(((List.replicate m eV).flatMap aJ).toArray).size=m*4:=by rw[List.size_toArray,jf,List.length_replicate]
 have:=jE (P:=prog) (w.alloc (.cells ((List.replicate m eV).flatMap aJ).toArray 27)) 25 25 3 27 4 w.heap.size m m ⟨b,off,none⟩ m cap ((List.replicate m eV).flatMap aJ).toArray 27 (zs.flatMap aJ) underlying25 (by rw[t1',Option.map_some,t3'])
  az (by rw[hcl,show Nat.min m m=m from Nat.min_self m]) (fun j v hv=>?_) (by rw[hcl,hzl];exact aC) (fun v hv=>by
   rw[List.mem_flatMap]at hv
   obtain⟨y,-,hy⟩:=hv
   exact gy y v hy)
 ·rw[this,show Nat.min m m=m from Nat.min_self m]
  congr 1
  rw[hcl,List.drop_of_length_le (by rw[Array.length_toList,hzl];exact aC),List.append_nil]
  exact mU w _ _ _
 ·obtain⟨y,y1,y2⟩:=AV zs j v hv
  have h:=hs (j/4) y y1 (j%4) v y2
  rw[show off+j/4*4+j%4=off+j by omega]at h
  rw[rm,World.cell?_of_block (w:=w) (a:=⟨b,off+j,none⟩) (aw _ _ _ (World.block_lt_of_cell? w _ h))]
  exact h
def ip (p:Nat×Nat):List Value:=[.pointer (some (ak p.1 p.2))]
theorem iZ (x:Nat×Nat):(ip x).length=1:=rfl
theorem wL (x:Nat×Nat):∀u∈ip x,u.oneCell'=true:=by
 intro u hu
 simp[ip]at hu
 subst hu
 rfl
theorem xJ:∃i z,prog.info? 157=some i/\i.zero=some z/\i.size=1/\i.bytes=8/\z.cells.size=1:=by
 refine⟨_,_,rfl,rfl,?_,?_,?_⟩<;>kernel_rfl
def Ej (G:Nat->Prop) (u w:World) (b:Nat):Prop:=aR w 27 b/\(b≠u.heap.size+1/\(b<u.heap.size->G b))
def nY (G:Nat->Prop) (u w:World) (p:Nat×Nat) (t:Tm):Prop:=u.heap.size<=p.1/\p.1≠u.heap.size+1/\aR w 27 p.1/\∃y:TV,(∀(j:Nat) v,(aJ y)[j]?=some v->w.cell? (ak p.1 (p.2+j))=some v)/\aI w (Ej G u w) y t
abbrev Pw:=(Nat×Nat)×Tm
def rL:List Pw->Nat
 |[]=>0
 |z::r=>z.2.size+rL r
theorem ja:∀a b:List Pw,rL (a++b)=rL a+rL b
 |[],b=>by simp[rL]
 |z::r,b=>by
  have:=ja r b
  simp only[List.cons_append,rL]
  omega
theorem vF:∀a:List Pw,a.length<=rL a
 |[]=>aC
 |z::r=>by
  have:=vF r
  obtain⟨p,⟨k,n,s,l⟩⟩:=z
  simp only[List.length_cons,rL,Tm.size]
  omega
structure jo (G:Nat->Prop) (u:World) (t:Tm) (gk:Nat) (v:Value) (wr:World) (ps:List Pw):Prop where
 row:aS wr u.heap.size 157 1 ip v (ps.map (·.1))
 pt:∀p∈ps,nY G u wr p.1 p.2
 root:nY G u wr (u.heap.size,0) t
 below:aE u wr
 rk:wr.heap[u.heap.size+1]?=some (.cells #[ae 0,ae 0,ai,aj] 27 (0,0))
 sz:rL ps<=gk
 few:rL ps<=1000000
section
variable {G:Nat->Prop} {u w w':World} {p:Nat×Nat} {t:Tm}
theorem nY.keep (h:nY G u w p t) (hb:∀b,aR w 27 b->w'.heap[b]?=w.heap[b]?):nY G u w' p t:=by
 obtain⟨h1,h2,h3,y,h4,h5⟩:=h
 exact⟨h1,h2,h3.keep (hb _ h3),y,fun j v hv=>(World.cell?_of_block (a:=⟨p.1,p.2+j,none⟩) (hb _ h3)).trans (h4 j v hv),h5.keep (fun b hb'=>⟨hb'.1.keep (hb b hb'.1),hb'.2⟩) fun b hb'=>hb b hb'.1⟩
theorem nY.recopy {pb po g n c:Nat} {A':Option Addr} {y:TV} (h:nY G u w p t) (hr:fW w w' pb po A' g n c y) (hS:∀b,aR w 27 b->aR w' 27 b) (hg:0<n->Ej G u w' g):nY G u w' p t:=by
 obtain⟨h1,h2,h3,z,h4,h5⟩:=h
 obtain⟨z',e1,e2⟩:=hr.at (S':=Ej G u w') (fun b hb=>⟨hS b hb.1,hb.2⟩) hg h4 h5
 exact⟨h1,h2,hS _ h3,z',e1,e2⟩
end
theorem tR {w:World} {pb po:Nat} {y:TV} (hc:∀(j:Nat) v,(aJ y)[j]?=some v->w.cell? (ak pb (po+j))=some v) (hl:y.len=0):fW w (w.setCell (ak pb (po+3)) aj) pb po none 0 0 0 y:=
 ⟨hc,hl,fun b o v h1 h2=>(World.cell?_setCell_other _ _ _ _ (by intro e;injection e with e1 e2;exact h1 e1.symm e2.symm)).trans h2,World.cell?_setCell_same _ _ _ (hc 3 _ rfl),fun h=>absurd h (by omega),fun b off j v _ h=>absurd h (by omega)⟩
theorem aR.setC {w:World} {t:TypeId} {k:Nat} (h:aR w t k) (b j:Nat) (v:Value):aR (w.setCell (ak b j) v) t k:=by
 obtain⟨cs,h⟩:=h
 by_cases hk:k=b
 ·subst hk
  exact⟨_,aK h v⟩
 ·exact⟨cs,(av _ _ _ _ hk).trans h⟩
theorem tc {w:World} {pb po b off n:Nat} {y:TV} {zs:List TV} (hc:∀(j:Nat) v,(aJ y)[j]?=some v->w.cell? (ak pb (po+j))=some v) (hpb:pb<w.heap.size) (hA:y.A=some (ak b off)) (hn:y.len=n) (hz:zs.length=n) (hs:∀(i:Nat) z,zs[i]?=some z->∀(j:Nat) v,(aJ z)[j]?=some v->w.cell? (ak b (off+i*4+j))=some v):
 fW w ((w.alloc (.cells (zs.flatMap aJ).toArray 27)).setCell (ak pb (po+3)) (al w.heap.size n n)) pb po (some (ak w.heap.size 0)) w.heap.size n n y:=by
 have hnew:(w.alloc (.cells (zs.flatMap aJ).toArray 27)).heap[w.heap.size]?=some (.cells (zs.flatMap aJ).toArray 27 (0,0)):=az
 have hold:∀(b o:Nat) v,w.cell? (ak b o)=some v->(w.alloc (.cells (zs.flatMap aJ).toArray 27)).cell? (ak b o)=some v:=fun b o v h=>(World.cell?_of_block (a:=⟨b,o,none⟩) (aw _ _ _ (World.block_lt_of_cell? w _ h))).trans h
 refine⟨hc,hn,fun b o v h1 h2=>(World.cell?_setCell_other _ _ _ _ (by intro e;injection e with e1 e2;exact h1 e1.symm e2.symm)).trans (hold b o v h2),World.cell?_setCell_same _ _ _ (hold _ _ _ (hc 3 _ rfl)),fun _=>rfl,fun b' off' j v h1 h2 h3=>?_⟩
 rw[hA]at h1
 injection h1 with h1
 injection h1 with h1 h1'
 subst h1 h1'
 rw[World.cell?_setCell_other _ _ _ _ (by intro e;injection e with e1 e2;omega),cell_of_row _ w.heap.size j _ _ (0,0) hnew]
 have hi:j/4<zs.length:=by omega
 obtain⟨z,hzz⟩:∃z,zs[j/4]?=some z:=⟨_,au hi⟩
 obtain⟨v',hv'⟩:∃v',(aJ z)[j%4]?=some v':=⟨_,au (by rw[bh];omega)⟩
 have h4:=hs _ z hzz _ v' hv'
 rw[show off+j/4*4+j%4=off+j by omega,h3]at h4
 injection h4 with h4
 have h5:=dU bh zs (j/4) (j%4) z v' hzz hv'
 rw[show j/4*4+j%4=j by omega]at h5
 rw[h4]
 simpa using h5
theorem tW {w:World} {S:Nat->Prop} {y:TV} {t:Tm} (h:aI w S y t) (h0:0<y.len):∃(zs:List TV) (b off:Nat),zs.length=y.len/\t.args.length=y.len/\y.A=some (ak b off)/\S b/\(∀(i:Nat) z,zs[i]?=some z->∀(j:Nat) v,(aJ z)[j]?=some v->w.cell? (ak b (off+i*4+j))=some v)/\∀(i:Nat) z a,zs[i]?=some z->t.args[i]?=some a->aI w S z a:=by
 cases h with
 |mk _ args xs h1 h2 h3 hc ht=>
  obtain⟨z0,hz0⟩:∃z,xs[0]?=some z:=⟨_,au (by omega)⟩
  obtain⟨b,off,e1,e2,-⟩:=hc 0 z0 hz0
  refine⟨xs,b,off,h1,h2,e1,e2,fun i z hz j v hv=>?_,ht⟩
  obtain⟨b',off',e1',-,e3⟩:=hc i z hz
  rw[e1]at e1'
  injection e1' with e1'
  injection e1' with q1 q2
  subst q1 q2
  exact e3 j v hv
end
section
open Go.RowKit Go.Maps
open Go.MapKept (Stamped)
section
variable {P:Program} {w w':World} {κ ν:Type} {ek:κ->Value} {ev:ν->Value} {l left:List (κ×ν)} {b r:Nat}
structure cN (w:World) (r b:Nat) (ek:κ->Value) (ev:ν->Value) (l left:List (κ×ν)):Prop where
 it:∃es clock seen,w.heap[b]?=some (.map es clock)/\es.toList.map (fun e=>(e.key,e.val))=l.map (fun x=>(ek x.1,ev x.2))/\Stamped es clock∧
  w.heap[r]?=some (.mapIter (some b) clock seen clock)/\(es.toList.filter (fun e=> !seen.contains e.born)).map (fun e=>(e.key,e.val))=left.map (fun x=>(ek x.1,ev x.2))∧
  (seen.isEmpty=true\/es.isEmpty=false)
theorem cN.lt (h:cN w r b ek ev l left):b<w.heap.size/\r<w.heap.size:=by
 obtain⟨es,clock,seen,hb,_,_,hr,_⟩:=h.it
 exact⟨(ap hb).1,(ap hr).1⟩
theorem cN.ne (h:cN w r b ek ev l left):r≠b:=by
 obtain⟨es,clock,seen,hb,_,_,hr,_⟩:=h.it
 rintro rfl
 rw[hb]at hr
 cases hr
theorem cN.keep (h:cN w r b ek ev l left) (h1:w'.heap[b]?=w.heap[b]?) (h2:w'.heap[r]?=w.heap[r]?):cN w' r b ek ev l left:=⟨by rw[h1,h2];exact h.it⟩
theorem aW.range {t kt et:TypeId} (ht:P.underlying t=some (.map kt et)) (h:aW w b ek ev l):
 ∃w',(Instr.range t (.map (some b))).run P w=.ok (ah w.heap.size) w'/\cN w' w.heap.size b ek ev l l/\aE w w':=by
 obtain⟨es,clock,hb,hl,hs⟩:=h.blk
 have hg:=MapKept.run_getObj_map (P:=P) hb
 have hlt:=h.lt
 refine⟨w.alloc (.mapIter (some b) clock #[] clock),?_,⟨es,clock,#[],?_,hl,hs,heap_alloc_new w _,?_,.inl rfl⟩,aB⟩
 ·simp[Instr.range,run_underlying ht,hg,Result.andThen]
 ·rw[aw _ _ _ hlt];exact hb
 ·rw[List.filter_eq_self.2 (by simp)]
  exact hl
theorem il {o:Obj} {m:Option Nat} {a:Nat} {s:Array Nat} {c:Nat} (hr:w.heap[r]?=some o) (ho:o=.mapIter m a s c):(getObj r).run P w=.ok o w:=by
 subst ho
 simp[getObj,Sem.run,hr]
theorem rq (P:Program) (w:World) (n:Nat) (hn:0<n):∃j w1,(choose (.mapNext n)).run P w=.ok j w1/\j<n/\w1.heap=w.heap/\w1.os=w.os/\w1.tape=w.tape/\w1.output=w.output/\(n=1->w1=w):=by
 by_cases h1:n<=1
 ·exact⟨0,w,by simp[choose,Sem.run,Question.forced,h1],hn,rfl,rfl,rfl,rfl,fun _=>rfl⟩
 ·exact⟨(Question.mapNext n).cut (w.tape w.drawn (.mapNext n)), {w with drawn:=w.drawn+1},by simp[choose,Sem.run,Question.forced,h1],Nat.mod_lt _ hn,rfl,rfl,rfl,rfl,fun e=>absurd e (by omega)⟩
theorem mK {es:Array MapEntry} {clock:Nat} {seen:Array Nat} (hs:Stamped es clock) (hse:seen.isEmpty=true\/es.isEmpty=false):
 (!seen.isEmpty&& !es.isEmpty&&es.all (fun e=>decide (e.born≥clock)))=false∧
 (es.filter (fun e=> !seen.contains e.born)).filter (fun e=>decide (e.born<clock))=es.filter (fun e=> !seen.contains e.born)∧
 (es.filter (fun e=> !seen.contains e.born)).filter (fun e=>decide (e.born≥clock))=#[]:=by
 have hb:∀e∈es,e.born<clock:=fun e he=>hs.1 e (by simpa using he)
 refine⟨?_,?_,?_⟩
 ·rcases hse with h|h
  ·simp[h]
  ·have hne:es.size≠0:=by
    intro e
    rw[Array.isEmpty_iff_size_eq_zero.2 e]at h
    cases h
   have h0:¬(clock<=es[0].born):=by
    have:=hb es[0] (Array.getElem_mem _)
    omega
   have:(es.all (fun e=>decide (e.born≥clock)))=false:=by
    rw[Bool.eq_false_iff]
    intro ht
    rw[Array.all_eq_true]at ht
    have:=ht 0 (by omega)
    simp at this
    exact h0 this
   rw[this]
   simp
 ·apply Array.filter_eq_self.2
  intro e he
  have:=hb e (Array.mem_filter.1 he).1
  simpa using this
 ·apply Array.filter_eq_empty_iff.2
  intro e he
  have:=hb e (Array.mem_filter.1 he).1
  simp
  exact this
theorem cN.over {ty:TypeId} (h:cN w r b ek ev l []):(Instr.next (ah r) false ty).run P w=.ok (.tuple #[.bool false]) w:=by
 obtain⟨es,clock,seen,hb,hl,hs,hr,hleft,hse⟩:=h.it
 have hg:=MapKept.run_getObj_map (P:=P) hb
 have hgr:=il (P:=P) hr rfl
 obtain⟨f1,f2,f3⟩:=mK hs hse
 have h0:es.filter (fun e=> !seen.contains e.born)=#[]:=by
  apply Array.ext'
  rw[Array.toList_filter]
  simpa using hleft
 rw[h0]at f2 f3
 simp only[Instr.next,Sem.run_bind,hgr,hg,Result.andThen_ok,f1,h0,f2,f3]
 simp[Question.forced]
theorem cN.next {ty:TypeId} (h:cN w r b ek ev l left) (hne:left≠[]):
 ∃i x w',(Instr.next (ah r) false ty).run P w=.ok (.tuple #[.bool true,ek x.1,ev x.2]) w'/\left[i]?=some x/\cN w' r b ek ev l (left.eraseIdx i)/\w.grownBy w' (some r)/\w'.heap.size=w.heap.size∧
  (Instr.entry (ah r)).run P w'=.ok (.tuple #[ek x.1,ev x.2]) w':=by
 obtain⟨es,clock,seen,hb,hl,hs,hr,hleft,hse⟩:=h.it
 have hg:=MapKept.run_getObj_map (P:=P) hb
 have hgr:=il (P:=P) hr rfl
 obtain⟨f1,f2,f3⟩:=mK hs hse
 generalize hL:es.filter (fun e=> !seen.contains e.born)=L at f2 f3
 have hLl:L.toList.map (fun e=>(e.key,e.val))=left.map (fun x=>(ek x.1,ev x.2)):=by rw[<-hL,Array.toList_filter];exact hleft
 have hsz:L.size=left.length:=by simpa using congrArg List.length hLl
 have hpos:0<L.size:=by rw[hsz];exact List.length_pos_iff.2 hne
 have hem:L.isEmpty=false:=by
  cases he:L.isEmpty
  ·rfl
  ·have:=Array.isEmpty_iff_size_eq_zero.1 he
   omega
 obtain⟨j,w1,hch,hj,e1,e2,e3,e4,_⟩:=rq P w L.size hpos
 have hrl:r<w1.heap.size:=by rw[e1];exact h.lt.2
 have hr1:w1.heap[r]?=some (.mapIter (some b) clock seen clock):=by rw[e1];exact hr
 have hset:(setObj r (.mapIter (some b) clock (seen.push L[j].born) clock)).run P w1=.ok () {w1 with heap:=w1.heap.setIfInBounds r (.mapIter (some b) clock (seen.push L[j].born) clock)} :=by
  simp[setObj,Sem.run,hr1]
 have hLj:L.toList[j]?=some L[j]:=by simp[hj]
 obtain⟨x,hx,hk,hv⟩:=mA hLl hLj
 refine⟨j,x, {w1 with heap:=w1.heap.setIfInBounds r (.mapIter (some b) clock (seen.push L[j].born) clock)},?_,hx,⟨es,clock,seen.push L[j].born,?_,hl,hs,by simp[hrl],?_,.inr ?_⟩,?_,by simp[e1],?_⟩
 ·simp only[Instr.next,Sem.run_bind,hgr,hg,Result.andThen_ok,f1,hL,f2,f3]
  have hcand:((if L.isEmpty=true then #[none]else #[])++Array.map some (L++#[]))=L.map some:=by simp[hem]
  rw[hcand]
  simp only[Array.size_map]
  simp only[Bool.false_eq_true,if_false,Sem.run_bind,hch,Result.andThen_ok]
  simp[hj,hset,hk,hv,Result.andThen]
 ·rw[show({w1 with heap:=w1.heap.setIfInBounds r (.mapIter (some b) clock (seen.push L[j].born) clock)} :World).heap=w1.heap.setIfInBounds r (.mapIter (some b) clock (seen.push L[j].born) clock)from rfl]
  rw[Array.getElem?_setIfInBounds_ne h.ne,e1]
  exact hb
 ·have hnd:(L.toList.map (·.born)).Nodup:=by
   rw[<-hL,Array.toList_filter]
   exact List.Nodup.sublist (List.Sublist.map _ List.filter_sublist) hs.2.1
  have hflt:es.toList.filter (fun e=> !(seen.push L[j].born).contains e.born)=L.toList.eraseIdx j:=by
   have h1:es.toList.filter (fun e=> !(seen.push L[j].born).contains e.born)=L.toList.filter (fun e=>decide (e.born≠L[j].born)):=by
    have hLt:L.toList=es.toList.filter (fun e=> !seen.contains e.born):=by rw[<-hL,Array.toList_filter]
    generalize L[j].born=bj
    rw[hLt,List.filter_filter]
    congr 1
    funext e
    rw[Array.contains_push]
    by_cases hbj:e.born=bj<;>simp[hbj]
   rw[h1]
   have h2:=jK (l:=L.toList.map (fun e=>(e.born,e))) (by rw[List.map_map];exact hnd) (j:=j) (x:=(L[j].born,L[j])) (by simp[hj])
   have h3:=congrArg (List.map (·.2)) h2
   rw[dV]at h3
   simp only[CE,List.map_map]at h3
   rw[List.filter_map,List.map_map]at h3
   simpa[Function.comp_def]using h3
  rw[hflt,dV,dV,hLl]
 ·cases he:es.isEmpty
  ·rfl
  ·have h5:=Array.isEmpty_iff_size_eq_zero.1 he
   have h6:L.size<=es.size:=by rw[<-hL];exact Array.size_filter_le
   omega
 ·refine⟨e2,e3,e4,by simp[e1],fun k _ hk'=>?_⟩
  have:r≠k:=fun e=>hk' (by rw[e])
  simp[this,e1]
 ·rw[<-hk,<-hv]
  refine Go.run_entry_at _ r b clock seen es clock L[j] (by simp[hrl]) ?_ ?_ hs.2.1
  ·rw[show({w1 with heap:=w1.heap.setIfInBounds r (.mapIter (some b) clock (seen.push L[j].born) clock)} :World).heap=w1.heap.setIfInBounds r (.mapIter (some b) clock (seen.push L[j].born) clock)from rfl]
   rw[Array.getElem?_setIfInBounds_ne h.ne,e1]
   exact hb
  ·have hm:∀y∈L.toList,y∈es.toList:=by
    intro y hy
    rw[<-hL,Array.toList_filter]at hy
    exact(List.mem_filter.1 hy).1
   exact hm _ (by simp)
end
end
section
open Go.RowKit Go.Maps
open Go.MapKept (Stamped)
mutual
theorem cV:∀t:Tm,t.deep<=t.size
 | .mk k n s l=>by
  have:=lA l
  simp only[Tm.deep,Tm.size]
  omega
theorem lA:∀l:List Tm,Tm.deeps l<=Tm.sizes l
 |[]=>aC
 |t::r=>by
  have h1:=cV t
  have h2:=lA r
  simp only[Tm.deeps,Tm.sizes]
  omega
end
variable[Base]
omit[Base]in
theorem aW.clear {P:Program} {w:World} {κ ν:Type} {ek:κ->Value} {ev:ν->Value} {l:List (κ×ν)} {b:Nat} {t kt et ty:TypeId} (ht:P.underlying t=some (.map kt et)) (h:aW w b ek ev l):
 ∃w',(Builtin.clear_ #[t] ty #[.map (some b)]).run P w=.ok (.tuple #[]) w'/\aW w' b ek ev ([]:List (κ×ν))/\w.grownBy w' (some b)/\w'.heap.size=w.heap.size:=by
 obtain⟨es,clock,hb,hl,hs⟩:=h.blk
 have hg:=MapKept.run_getObj_map (P:=P) hb
 refine⟨{w with heap:=w.heap.setIfInBounds b (.map #[] clock)},?_,⟨⟨#[],clock,by simp[h.lt],rfl,?_⟩,List.nodup_nil⟩,fC _ _ _,by simp⟩
 ·simp[Builtin.clear_,run_underlying ht,hg,MapKept.run_setObj_map _ hb,Result.andThen]
 ·exact MapKept.stamped_empty clock
section
variable {sb room:Nat} {u u':World} {cv bv:Value} {xs:List ec} {cs:List Sc} {ys:List (Nat×Int)}
theorem aL.top' {g cap:Nat} (h:aL sb room u (al g cs.length cap) bv xs cs ys) {i:Nat} {x:ec} (hx:xs[i]?=some x) (tv:Int) (ht:-1<=tv/\tv<=100000000):
 aL sb room (u.setCell (ak g (i*6+5)) (ae tv)) (al g cs.length cap) bv (xs.set i {x with top:=tv}) cs ys:=by
 have hg:aR u 378 g:=h.row.ty rfl
 have hk:∀ {b t'},aR u t' b->t'≠378->(u.setCell (ak g (i*6+5)) (ae tv)).heap[b]?=u.heap[b]?:=fun hb hn=>av _ _ _ _ (hb.ne hg hn)
 refine⟨(hk ⟨_,h.blk⟩ (by decide)).trans h.blk,h.row.put fI hx (by decide) rfl,h.bonds.keep fun k hk'=>hk (h.bonds.ty hk') (by decide),by rw[List.length_set];exact h.len,fun j y d hy hd=>?_,h.few,h.room,h.flw,h.args,h.ar,h.bnd,h.many⟩
 by_cases e:j=i
 ·subst e
  rw[List.getElem?_set_self (aq hx).1]at hy
  injection hy with hy
  subst hy
  have ho:=h.ok j x d hx hd
  exact⟨ho.k,ho.n,ho.s,ho.to,ho.m,ho.args.keep fun b hb=>hk hb (by decide),ho.short,ht⟩
 ·rw[List.getElem?_set_ne (Ne.symm e)]at hy
  have ho:=h.ok j y d hy hd
  exact⟨ho.k,ho.n,ho.s,ho.to,ho.m,ho.args.keep fun b hb=>hk hb (by decide),ho.short,ho.top⟩
end
omit[Base]in
theorem wI {l m:List (Int×Int)} (h:l.Perm m) (hl:(l.map (·.1)).Nodup) (n:Int):aP l n=aP m n:=by
 have hm:(m.map (·.1)).Nodup:=(h.map _).nodup_iff.1 hl
 cases e:aP m n with
 |some v=>exact ie hl (h.mem_iff.2 (dA e))
 |none=>exact iY fun x hx=>dr e x (h.mem_iff.1 hx)
omit[Base]in
theorem qV {l:List (Int×Int)} {j:Nat} {x:Int×Int} (h:l[j]?=some x):(x::l.eraseIdx j).Perm l:=by
 induction l generalizing j with
 |nil=>simp at h
 |cons a r ih=>
  obtain _|j:=j
  ·injection h with h
   subst h
   exact List.Perm.refl _
  ·exact(List.Perm.swap a x _).trans ((ih h).cons a)
structure lj (vb fb r:Nat) (l:List (Int×Int)) (done left:List (Int×Int)) (wr:World):Prop where
 it:cN wr r fb sQ sQ l left
 vars:M6 wr vb done
 perm:(done++left).Perm l
 ne:vb≠fb/\vb≠r
omit[Base]in
theorem lj.step {vb fb r:Nat} {l done left:List (Int×Int)} {wr wn:World} (h:lj vb fb r l done left wr) (hl:(l.map (·.1)).Nodup) (hok:∀x∈l,fP x.1) {j:Nat} {x:Int×Int} (hit:cN wn r fb sQ sQ l (left.eraseIdx j)) (hg:wr.grownBy wn (some r)) (hj:left[j]?=some x):
 ∃w9,(Instr.mapUpdate 116 (.map (some vb)) (ae x.1) (ae x.2)).run prog wn=.ok () w9/\lj vb fb r l (done++[x]) (left.eraseIdx j) w9/\wn.grownBy w9 (some vb):=by
 have hmem:=List.mem_of_getElem? hj
 have hx:x∈l:=h.perm.mem_iff.1 (List.mem_append_right _ hmem)
 have hv:M6 wn vb done:=h.vars.keep (hg.block _ h.vars.lt fun e=>h.ne.2 (Option.some.inj e))
 obtain⟨w9,h1,h2,h3,-⟩:=hv.put x.1 (hok x hx) x.2
 have hnew:∀y∈done,y.1≠x.1:=fun y hy e=>by
  have hnd:((done++left).map (·.1)).Nodup:=(h.perm.map _).nodup_iff.2 hl
  rw[List.map_append,List.nodup_append]at hnd
  exact hnd.2.2 _ (List.mem_map_of_mem hy) _ (List.mem_map_of_mem hmem) e
 have hp:cL done x.1 x.2=done++[x]:=by
  unfold cL
  rw[iY hnew]
  rfl
 rw[hp]at h2
 refine⟨w9,h1,⟨hit.keep (h3.block _ hit.lt.1 fun e=>h.ne.1 (Option.some.inj e).symm) (h3.block _ hit.lt.2 fun e=>h.ne.2 (Option.some.inj e).symm),h2,?_,h.ne⟩,h3⟩
 rw[List.append_assoc]
 exact(List.Perm.append_left done (qV hj)).trans h.perm
omit[Base]in
theorem Fr.past {S S':Nat->Prop} {u w w':World} (h:Fr S u w) (k:Fr S' w w') (hS:∀j,S' j->u.heap.size<=j):Fr S u w':=
 ⟨k.os.trans h.os,k.tape.trans h.tape,k.output.trans h.output,Nat.le_trans h.size k.size,fun i hi hn=>(k.block i (Nat.lt_of_lt_of_le hi h.size) fun e=>by have:=hS i e;omega).trans (h.block i hi hn)⟩
def D7 (sb vb room:Nat) (u:World) (bv:Value) (cs:List Sc) (ys:List (Nat×Int)) (t:Tm) (e:Ending) (u':World):Prop:=
 e=.returned (.tuple #[ae ((aV t ⟨cs,[]⟩).1:Nat),ae 0])/\(∃cv' xs',aL sb room u' cv' bv xs' (aV t ⟨cs,[]⟩).2.cs ys)/\(∃l,M6 u' vb l/\∀n,aP l n=aP (jD (aV t ⟨cs,[]⟩).2.fr) n)/\Fr (fun k=>k=vb\/fc iw u k) u u'
omit[Base]in
theorem ew {t:Tm} (hm:t.may=true) (hs:t.size<=2000):dG t=0:=by
 have hd:t.deep<=t.size:=cV t
 unfold dG
 rw[if_neg (by rw[hm];decide),if_neg (by omega),if_neg (by omega)]
end
section
open Go.RowKit Go.Maps
mutual
def Tm.fits:Tm->Bool| .mk _ n _ l=>decide (-9223372036854775808<=n/\n<=9223372036854775807)&&Tm.fitss l
def Tm.fitss:List Tm->Bool|[]=>true|t::r=>t.fits&&Tm.fitss r
end
def gN (l:List bZ):Prop:=∀p∈l,-9223372036854775808<=p.n/\p.n<=9223372036854775807
theorem gN.drop {l:List bZ} (h:gN l) (k:Nat):gN (l.drop k):=fun p hp=>h p (List.mem_of_mem_drop hp)
theorem lP {g:List bZ->Tm×Nat} (hg:∀l,gN l->(g l).1.fits=true):∀(i:Nat) (l:List bZ),gN l->Tm.fitss (a8 g i l).1=true
 |0,_,_=>rfl
 |i+1,l,h=>by
  unfold a8
  simp only
  rw[Tm.fitss,hg l h,lP hg i _ (h.drop _)]
  rfl
theorem nT:∀(f:Nat) (l:List bZ),gN l->(oC f l).1.fits=true
 |0,_,_=>rfl
 |_+1,[],_=>rfl
 |f+1,p::r,h=>by
  have h1:=h p (List.mem_cons_self ..)
  have h2:gN r:=fun q hq=>h q (List.mem_cons_of_mem _ hq)
  unfold oC
  simp only
  rw[Tm.fits,lP (nT f) _ r h2,Bool.and_true]
  exact decide_eq_true h1
mutual
theorem ls:∀t:Tm,t.fits=true->(fF t).fits=true
 | .mk k n s l,h=>by
  rw[Tm.fits,Bool.and_eq_true,decide_eq_true_eq]at h
  obtain⟨h1,h2⟩:=h
  have hl:=nP l h2
  rw[fF]
  repeat' split
  all_goals first|rfl|(unfold jk;rw[Tm.fits,Bool.and_eq_true,decide_eq_true_eq];exact⟨by omega,rfl⟩)|(unfold iv;rw[Tm.fits,Bool.and_eq_true,decide_eq_true_eq];exact⟨h1,rfl⟩)|(unfold jq;rw[Tm.fits,Bool.and_eq_true,decide_eq_true_eq];exact⟨by omega,hl⟩)
theorem nP:∀l:List Tm,Tm.fitss l=true->Tm.fitss (cF l)=true
 |[],_=>rfl
 |t::r,h=>by
  rw[Tm.fitss,Bool.and_eq_true]at h
  rw[cF,Tm.fitss,ls t h.1,nP r h.2]
  rfl
end
def qh (u:World) (A:Option Addr) (n c:Nat):Prop:=n<=60->∃l:List bZ,l.length=n/\n<=c/\eT u A l/\gN l
mutual
theorem kN:∀t:Tm,t.fits=true->∀n∈dP t,-9223372036854775808<=n/\n<=9223372036854775807
 | .mk k n s l,h,m,hm=>by
  rw[Tm.fits,Bool.and_eq_true,decide_eq_true_eq]at h
  rw[dP,List.mem_append]at hm
  rcases hm with hm|hm
  ·split at hm
   ·obtain rfl:m=n:=by simpa using hm
    exact h.1
   ·cases hm
  ·exact mE l h.2 m hm
theorem mE:∀l:List Tm,Tm.fitss l=true->∀n∈gm l,-9223372036854775808<=n/\n<=9223372036854775807
 |[],_,m,hm=>by cases hm
 |t::r,h,m,hm=>by
  rw[Tm.fitss,Bool.and_eq_true]at h
  rw[gm,List.mem_append]at hm
  exact hm.elim (kN t h.1 m) (mE r h.2 m)
end
theorem zP {l:List bZ} (h:gN l) (hl:l.length<=60):(lH l).may=true/\(lH l).size<=421/\∀n∈dP (lH l),-9223372036854775808<=n/\n<=9223372036854775807:=by
 obtain⟨h1,h2⟩:=CX l
 exact⟨h1,by omega,kN _ (ls _ (nT _ l h))⟩
structure sI where
 side:Int
 pri:Int
 name:List UInt8
 left:Bool
 right:Bool
def dj (t:Tm):Bool:=decide (t.k=4)&&(decide (t.s=[46])&&decide (t.args.length=2))
def dY (es:List (dh×dv)) (way:Int) (t:Tm):Option sI:=
 if way=2\/t.k≠4\/dj t=true then none
 else if t.args.length=1 then
  (if 0<(bM es 1 t.s).1 then some ⟨1,(bM es 1 t.s).1,t.s,false,false⟩
  else if 0<(bM es 3 t.s).1 then some ⟨3,(bM es 3 t.s).1,t.s,false,false⟩else none)
 else if t.args.length=2 then
  (if 0<(bM es 2 t.s).1 then some ⟨2,(bM es 2 t.s).1,t.s,decide ((bM es 2 t.s).2.1=(bM es 2 t.s).1),decide ((bM es 2 t.s).2.2=(bM es 2 t.s).1)⟩else none)
 else none
def eu (way:Int) (s:List UInt8):List UInt8:=if way=0 then s else sn s
def dO (es:List (dh×dv)) (way:Int) (t:Tm) (o:sI) (same:Bool):Bool:=
 if t.k=3 then wS es t.s
 else if t.k=2 then decide (t.n<0)
 else if t.k=4 then
  (match dY es way t with
  |some p=>decide (o.pri<=p.pri)&& !(same&&(decide (p.side=2)&&decide (p.name=o.name)))
  |none=>false)
 else false
def cQ:Nat->Tm->List Tm×Tm
 |0,t=>([],t)
 |f+1,t=>if dj t=true then(t.args.getD 0 aQ::(cQ f (t.args.getD 1 aQ)).1,(cQ f (t.args.getD 1 aQ)).2)else([],t)
section
variable(es:List (dh×dv)) (way:Int) (g:Tm->Int->List UInt8)
def bG:List Tm->List UInt8
 |[]=>[]
 |[t]=>g t 999
 |t::r=>g t 999++44::bG r
def aZ (t:Tm) (o:sI) (same:Bool):List UInt8:=if dO es way t o same then 40::(g t 1200++[41])else g t 1200
def bq (o:sI) (l:List Tm):List UInt8:=
 if o.side=1 then eu way o.name++32::aZ es way g (l.getD 0 aQ) o false
 else if o.side=3 then aZ es way g (l.getD 0 aQ) o false++32::eu way o.name
 else aZ es way g (l.getD 0 aQ) o o.left++((if o.name=[44]then[44]else 32::(eu way o.name++[32]))++aZ es way g (l.getD 1 aQ) o o.right)
def ju (t:Tm):List UInt8:=if t.k=3/\t.s=[91,93]then[]else 124::g t 999
def lM (t:Tm):List UInt8:=91::(bG g (cQ t.size t).1++(ju g (cQ t.size t).2++[93]))
def eW (t:Tm) (most:Int):List UInt8:=
 if dj t=true then lM g t
 else if way≠2/\t.s=[123,125]/\t.args.length=1 then 123::(g (t.args.getD 0 aQ) 1200++[125])
 else match dY es way t with
  |none=>eu way t.s++40::(bG g t.args++[41])
  |some o=>if most<o.pri then 40::(bq es way g o t.args++[41])else bq es way g o t.args
def fK (t:Tm) (most:Int):List UInt8:=
 if t.k=1 then 95::Lib.itoa t.n
 else if t.k=2 then Lib.itoa t.n
 else if t.k=3 then eu way t.s
 else eW es way g t most
end
def D2 (es:List (dh×dv)) (way:Int):Nat->Tm->Int->List UInt8
 |0,_,_=>[]
 |f+1,t,most=>fK es way (D2 es way f) t most
def gM (es:List (dh×dv)) (way:Int) (t:Tm) (most:Int):List UInt8:=D2 es way t.size t most
theorem dZ {t:Tm} {i:Nat} (h:i<t.args.length):(t.args.getD i aQ).size<t.size:=by
 have h1:=dD t.args (t.args.getD i aQ) (by rw[List.getD_eq_getElem?_getD,au h];exact List.getElem_mem h)
 have h2:=bE t
 omega
theorem dC {t:Tm} (h:dj t=true):t.k=4/\t.s=[46]/\t.args.length=2:=by
 unfold dj at h
 simpa using h
theorem jW:∀(f:Nat) (t:Tm),(∀x∈(cQ f t).1,x.size<t.size)/\(cQ f t).2.size<=t.size/\(dj t=true->0<f->(cQ f t).2.size<t.size)
 |0,t=>⟨fun x hx=>(by cases hx),aC,fun _ h=>absurd h (Nat.lt_irrefl _)⟩
 |f+1,t=>by
  unfold cQ
  by_cases h:dj t=true
  ·rw[if_pos h]
   obtain⟨_,_,h3⟩:=dC h
   have h0:=dZ (t:=t) (i:=0) (by omega)
   have h1:=dZ (t:=t) (i:=1) (by omega)
   obtain⟨i1,i2,_⟩:=jW f (t.args.getD 1 aQ)
   refine⟨fun x hx=>?_,by simp only;omega,fun _ _=>by simp only;omega⟩
   rcases List.mem_cons.1 hx with rfl|hx
   ·exact h0
   ·have:=i1 x hx;omega
  ·rw[if_neg h]
   exact⟨fun x hx=>(by cases hx),aC,fun h'=>absurd h' h⟩
theorem gT {g g':Tm->Int->List UInt8} :∀(l:List Tm),(∀t∈l,∀m,g t m=g' t m)->bG g l=bG g' l
 |[],_=>rfl
 |[t],h=>h t (by simp) 999
 |t::u::r,h=>by
  have ih:=gT (u::r) (fun x hx=>h x (List.mem_cons_of_mem _ hx))
  simp only[bG]at ih⊢
  rw[h t (by simp) 999,ih]
theorem ko {es:List (dh×dv)} {way:Int} {g g':Tm->Int->List UInt8} (t:Tm) (most:Int) (h:∀x:Tm,x.size<t.size->∀m,g x m=g' x m):fK es way g t most=fK es way g' t most:=by
 have ha:∀x∈t.args,∀m,g x m=g' x m:=fun x hx=>h x (by have h1:=dD t.args x hx;have h2:=bE t;omega)
 have hd:∀i,i<t.args.length->∀m,g (t.args.getD i aQ) m=g' (t.args.getD i aQ) m:=fun i hi=>h _ (dZ hi)
 have hop:∀i,i<t.args.length->∀o same,aZ es way g (t.args.getD i aQ) o same=aZ es way g' (t.args.getD i aQ) o same:=fun i hi o same=>by
  unfold aZ
  rw[hd i hi]
 unfold fK
 split
 ·rfl
 ·split
  ·rfl
  ·split
   ·rfl
   ·unfold eW
    split
    ·rename_i hc
     have hpos:0<t.size:=bL t
     obtain⟨i1,_,i3⟩:=jW t.size t
     unfold lM ju
     rw[gT (g:=g) (g':=g') _ (fun x hx=>h x (i1 x hx)),h _ (i3 hc hpos)]
    ·split
     ·rename_i h1
      rw[hd 0 (by omega)]
     ·have ho1:∀o,dY es way t=some o->bq es way g o t.args=bq es way g' o t.args:=fun o ho=>by
       have hlen:(o.side=1\/o.side=3->0<t.args.length)/\(¬o.side=1->¬o.side=3->1<t.args.length):=by
        unfold dY at ho
        split at ho
        ·cases ho
        ·split at ho
         ·rename_i hl
          split at ho
          ·injection ho with ho
           subst ho
           exact⟨fun _=>by omega,fun e=>absurd rfl e⟩
          ·split at ho
           ·injection ho with ho
            subst ho
            exact⟨fun _=>by omega,fun _ e=>absurd rfl e⟩
           ·cases ho
         ·split at ho
          ·rename_i hl
           split at ho
           ·injection ho with ho
            subst ho
            exact⟨fun _=>by omega,fun _ _=>by omega⟩
           ·cases ho
          ·cases ho
       unfold bq
       split
       ·rename_i h1
        rw[hop 0 (hlen.1 (.inl h1))]
       ·split
        ·rename_i h1
         rw[hop 0 (hlen.1 (.inr h1))]
        ·rename_i h1 h2
         have:=hlen.2 h1 h2
         rw[hop 0 (by omega),hop 1 (by omega)]
      split
      ·rw[gT _ ha]
      ·rename_i o ho
       rw[ho1 o ho]
theorem rz (es:List (dh×dv)) (way:Int):∀(n f g:Nat) (t:Tm) (most:Int),t.size<=n->t.size<=f->t.size<=g->D2 es way f t most=D2 es way g t most
 |0,_,_,t,_,h,_,_=>by have:=bL t;omega
 |n+1,f,g,t,most,h,hf,hg=>by
  have:=bL t
  obtain⟨f,rfl⟩:∃k,f=k+1:=⟨f-1,by omega⟩
  obtain⟨g,rfl⟩:∃k,g=k+1:=⟨g-1,by omega⟩
  rw[D2,D2]
  exact ko t most fun x hx m=>rz es way n f g x m (by omega) (by omega) (by omega)
theorem iz (es:List (dh×dv)) (way:Int) (t:Tm) (most:Int):gM es way t most=fK es way (gM es way) t most:=by
 have hp:=bL t
 unfold gM
 obtain⟨f,hf⟩:∃k,t.size=k+1:=⟨t.size-1,by omega⟩
 rw[hf,D2]
 exact ko t most fun x hx m=>rz es way x.size f x.size x m aC (by omega) aC
end
section
section
variable {es:List (dh×dv)} {g0 g1:Tm->Int->List UInt8}
theorem oB {way:Int} {t:Tm} {o:sI} (h:dY es way t=some o):o.name=t.s/\t.k=4/\((o.side=1\/o.side=3)/\t.args.length=1\/o.side=2/\t.args.length=2):=by
 unfold dY at h
 split at h
 ·cases h
 ·rename_i hn
  have hk:t.k=4:=Classical.byContradiction fun e=>hn (.inr (.inl e))
  split at h
  ·rename_i hl
   split at h
   ·injection h with h
    subst h
    exact⟨rfl,hk,.inl ⟨.inl rfl,hl⟩⟩
   ·split at h
    ·injection h with h
     subst h
     exact⟨rfl,hk,.inl ⟨.inr rfl,hl⟩⟩
    ·cases h
  ·split at h
   ·rename_i hl
    split at h
    ·injection h with h
     subst h
     exact⟨rfl,hk,.inr ⟨rfl,hl⟩⟩
    ·cases h
   ·cases h
theorem ph {t:Tm} (h:t.may=true):(t.k=1\/t.k=2\/t.k=3\/t.k=4)/\∀x∈t.args,x.may=true:=by
 obtain⟨k,n,s,l⟩:=t
 rw[Tm.may,Bool.and_eq_true]at h
 refine⟨?_,?_⟩
 ·show k=1\/k=2\/k=3\/k=4
  have h1:=h.1
  unfold eR at h1
  split at h1
  ·omega
  ·split at h1
   ·omega
   ·split at h1
    ·omega
    ·split at h1
     ·omega
     ·cases h1
 ·have:∀(l:List Tm),Tm.mays l=true->∀x∈l,x.may=true:=by
   intro l
   induction l with
   |nil=>intro _ x hx;cases hx
   |cons a l ih=>
    intro hl x hx
    rw[Tm.mays,Bool.and_eq_true]at hl
    rcases List.mem_cons.1 hx with rfl|hx
    ·exact hl.1
    ·exact ih hl.2 x hx
  exact this l h.2
end
end
section
open Go.RowKit Go.Maps
def Do (b rb:Nat) (k:Int) (n:Nat) (w w':World):Prop:=
 (Instr.mapUpdate 145 (.map (some b)) (ae k) (.func (.func n) #[ah rb] #[])).run prog w=.ok () w'
theorem gK {w:World} {b rb:Nat} {l:List (Int×Nat)} (h:aW w b kp (ww rb) l) (hok:∀x∈l,pi x.1) (k:Int) (hk:pi k) (n:Nat):
 ∃w',Do b rb k n w w'/\aW w' b kp (ww rb) (cL l k n)/\Fr (·=b) w w'/\w'.heap.size=w.heap.size:=by
 obtain⟨w',h1,h2,h3,h4⟩:=aW.update (P:=prog) (t:=145) Dj underlying145 h hok hk n
 exact⟨w',h1,h2,(Fr.refl _ _).grown h3 fun g hg=>.inl (by cases hg;rfl),h4⟩
theorem As {w:World} {b rb:Nat} (h:aW w b kp (ww rb) ([]:List (Int×Nat))):
 ∃w1 w2 w3 w4 w5 w6,Do b rb 3 55 w w1/\Do b rb 4 56 w1 w2/\Do b rb 5 57 w2 w3/\Do b rb 6 58 w3 w4/\Do b rb 1 59 w4 w5/\Do b rb 2 59 w5 w6∧
  aW w6 b kp (ww rb) kQ/\Fr (·=b) w w1/\Fr (·=b) w w2/\Fr (·=b) w w3/\Fr (·=b) w w4/\Fr (·=b) w w5/\Fr (·=b) w w6/\w6.heap.size=w.heap.size:=by
 have ok:∀k:Int,0<=k->k<=10->pi k:=fun k h1 h2=>⟨by omega,by omega⟩
 obtain⟨w1,a1,m1,f1,s1⟩:=gK h (fun x hx=>by cases hx) 3 (ok 3 (by omega) (by omega)) 55
 obtain⟨w2,a2,m2,f2,s2⟩:=gK m1 (by intro x hx;simp[cL,aP]at hx;subst hx;exact ok _ (by simp) (by simp)) 4 (ok 4 (by omega) (by omega)) 56
 obtain⟨w3,a3,m3,f3,s3⟩:=gK m2 (by intro x hx;simp[cL,aP]at hx;rcases hx with rfl|rfl<;>exact ok _ (by simp) (by simp)) 5 (ok 5 (by omega) (by omega)) 57
 obtain⟨w4,a4,m4,f4,s4⟩:=gK m3 (by intro x hx;simp[cL,aP]at hx;rcases hx with rfl|rfl|rfl<;>exact ok _ (by simp) (by simp)) 6 (ok 6 (by omega) (by omega)) 58
 obtain⟨w5,a5,m5,f5,s5⟩:=gK m4 (by intro x hx;simp[cL,aP]at hx;rcases hx with rfl|rfl|rfl|rfl<;>exact ok _ (by simp) (by simp)) 1 (ok 1 (by omega) (by omega)) 59
 obtain⟨w6,a6,m6,f6,s6⟩:=gK m5 (by intro x hx;simp[cL,aP]at hx;rcases hx with rfl|rfl|rfl|rfl|rfl<;>exact ok _ (by simp) (by simp)) 2 (ok 2 (by omega) (by omega)) 59
 have g2:=f1.trans f2
 have g3:=g2.trans f3
 have g4:=g3.trans f4
 have g5:=g4.trans f5
 refine⟨w1,w2,w3,w4,w5,w6,a1,a2,a3,a4,a5,a6,?_,f1,g2,g3,g4,g5,g5.trans f6,by omega⟩
 have e:cL (cL (cL (cL (cL (cL ([]:List (Int×Nat)) 3 55) 4 56) 5 57) 6 58) 1 59) 2 59=kQ:=by decide
 rw[<-e]
 exact m6
end
end Go.Proofs.YtigeofkllldilaaGreatDoor
