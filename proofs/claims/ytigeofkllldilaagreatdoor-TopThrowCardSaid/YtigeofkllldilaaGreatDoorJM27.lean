import Derived.Test.YtigeofkllldilaaGreatDoorJM17
import Derived.Test.YtigeofkllldilaaGreatDoorJM26
set_option maxHeartbeats 32000000
set_option maxRecDepth 100000
set_option linter.unusedSectionVars false
open Go.Proofs.Tryz
namespace Go.Proofs.YtigeofkllldilaaGreatDoor
section
open Go.RowKit Go.Maps
def mu (k:PK):Int:=(aP ql k).getD 0
def Dp:List UInt8:=[99,97,108,108]
def bI (k:Int) (s:List UInt8) (n:Nat):Int:=if k=3 then mu (s,0)else if k=4 then(if n=0 then 0 else mu (s,if s=Dp then 1 else n))else-1
theorem jS {w u:World} {b:Nat} (h:kq w u b) (s:List UInt8) (m:Int) (hk:ez (s,m)):(Instr.lookup 335 (.map (some b)) (.agg #[af s,ae m]) false).run prog u=.ok (ae (mu (s,m))) u:=by
 obtain⟨L,hM,hL⟩:=h
 have:=hM.map.lookup (t:=335) Ep underlying335 (z:=ae 0) (fun u=>by kernel_rfl) hM.ok hk false
 rw[hL]at this
 unfold mu
 cases hc:aP ql (s,m)<;>rw[hc]at this<;>exact this
theorem kq.below {w u:World} {b:Nat} (h:kq w u b):aE w u:=by
 obtain⟨L,hM,-⟩:=h
 exact hM.below
structure jz (w U:World) (s:List UInt8) (m:Int):Prop where
 blk:U.heap[w.heap.size+1]?=some (.cells #[af s,ae m] 334 (0,0))
 below:aE w U
theorem jz.new (w:World) (o:Obj) (s:List UInt8) (m:Int):jz w ((w.alloc o).alloc (.cells #[af s,ae m] 334)) s m:=
 ⟨by simpa using heap_alloc_new (w.alloc o) (.cells #[af s,ae m] 334),aB.alloc (by simp) _⟩
theorem jz.later {w U V:World} {s:List UInt8} {m:Int} (h:jz w U s m) (hb:aE U V):V.cell? (ak (w.heap.size+1) 0)=some (af s)/\V.cell? (ak (w.heap.size+1) 1)=some (ae m):=by
 have hb:=(hb.block _ (ap h.blk).1).trans h.blk
 exact⟨(cell_of_row _ _ 0 _ _ _ hb).trans rfl,(cell_of_row _ _ 1 _ _ _ hb).trans rfl⟩
theorem kg (w:World) (x:TV) (hs:x.s.length<=maxLen) (hl:(x.len:Int)<=9223372036854775807):
 Calls prog 145 #[aU x] w fun e w'=>e=.returned (ae (bI x.k x.s x.len))/\aE w w':=by
 obtain⟨k,n,s,A,len,cap⟩:=x
 dsimp only at hs hl⊢
 unfold aU
 dsimp only
 have HKA:=ad (show∀(m:Int),-9223372036854775808<=m->m<=9223372036854775807->ez (s,m)from fun m h1 h2=>⟨hs,h1,h2⟩)
 clear hs
 by_cases h3:k=3
 ·subst h3
  have HR:=ad (show bI 3 s len=mu (s,0)by unfold bI;rw[if_pos rfl])
  clear hl
  go_enter func145,ntmps145
  go_upto_region 11 with fail
  have HO:=ad (HKA.out 0 (by omega) (by omega))
  obtain⟨U,hU⟩:∃U,U=(w.alloc (Obj.cells #[ae 3,ae n,af s,.slice A len cap] 27)).alloc (.cells #[af s,ae 0] 334):=⟨_,rfl⟩
  rw[<-hU]
  have HK:Hid (jz w U s 0):=ad (by rw[hU];exact jz.new w _ s 0)
  clear hU HKA
  have HS:Hid (∀V,aE U V->V.cell? (ak (w.heap.size+1) 0)=some (af s)/\V.cell? (ak (w.heap.size+1) 1)=some (ae 0)):=ad fun V hV=>HK.later hV
  go_region_held3 (fun V=>V.cell? (ak (w.heap.size+1) 0)=some (af s)/\V.cell? (ak (w.heap.size+1) 1)=some (ae 0))
   (first|(with_reducible exact HS.out _ aA.drew)|(with_reducible exact HS.out _ hb))
   (first|(go_at_call 237;refine(kW _).mono ?_;rintro e w1 ⟨b,rfl,hM⟩;have hb:aE U w1:=aA.drew.trans hM.below;have hlk:=jS hM s 0 HO.out))
  clear hlk hM
  go_wp2_with fail
  go_ret
  exact⟨by rw[HR.out];rfl,HK.below.trans (hb.mono HK.below.size)⟩
 ·by_cases h4:k=4
  ·subst h4
   clear h3
   by_cases hz:len=0
   ·have HR:=ad (show bI 4 s len=0 by unfold bI;rw[if_neg (by decide),if_pos rfl,if_pos hz])
    subst hz
    go_enter func145,ntmps145
    go_wp2_with fail
    go_ret
    exact⟨by rw[HR.out];rfl,aB.alloc (by simp) _⟩
   ·have hz0:((len:Int)==0)=false:=beq_false_of_ne (by omega)
    by_cases hc:s=Dp
    ·have HR:=ad (show bI 4 s len=mu (s,1)by unfold bI;rw[if_neg (by decide),if_pos rfl,if_neg hz,if_pos hc])
     have hcc:(s==[99,97,108,108])=true:=beq_iff_eq.2 hc
     clear hc hz
     go_enter func145,ntmps145
     go_upto_region 11 with fail
     have HO:=ad (HKA.out 1 (by omega) (by omega))
     obtain⟨U,hU⟩:∃U,U=(w.alloc (Obj.cells #[ae 4,ae n,af s,.slice A len cap] 27)).alloc (.cells #[af s,ae 1] 334):=⟨_,rfl⟩
     rw[<-hU]
     have HK:Hid (jz w U s 1):=ad (by rw[hU];exact jz.new w _ s 1)
     clear hU HKA
     have HS:Hid (∀V,aE U V->V.cell? (ak (w.heap.size+1) 0)=some (af s)/\V.cell? (ak (w.heap.size+1) 1)=some (ae 1)):=ad fun V hV=>HK.later hV
     go_region_held3 (fun V=>V.cell? (ak (w.heap.size+1) 0)=some (af s)/\V.cell? (ak (w.heap.size+1) 1)=some (ae 1))
      (first|(with_reducible exact HS.out _ aA.drew)|(with_reducible exact HS.out _ hb))
      (first|(go_at_call 237;refine(kW _).mono ?_;rintro e w1 ⟨b,rfl,hM⟩;have hb:aE U w1:=aA.drew.trans hM.below;have hlk:=jS hM s 1 HO.out))
     clear hlk hM
     go_wp2_with fail
     go_ret
     exact⟨by rw[HR.out];rfl,HK.below.trans (hb.mono HK.below.size)⟩
    ·have HR:=ad (show bI 4 s len=mu (s,(len:Int))by unfold bI;rw[if_neg (by decide),if_pos rfl,if_neg hz,if_neg hc])
     have hcc:(s==[99,97,108,108])=false:=beq_false_of_ne hc
     clear hc hz
     go_enter func145,ntmps145
     go_upto_region 11 with fail
     have HO:=ad (HKA.out (len:Int) (by omega) (by omega))
     obtain⟨U,hU⟩:∃U,U=(w.alloc (Obj.cells #[ae 4,ae n,af s,.slice A len cap] 27)).alloc (.cells #[af s,ae (len:Int)] 334):=⟨_,rfl⟩
     rw[<-hU]
     have HK:Hid (jz w U s (len:Int)):=ad (by rw[hU];exact jz.new w _ s (len:Int))
     clear hU HKA
     have HS:Hid (∀V,aE U V->V.cell? (ak (w.heap.size+1) 0)=some (af s)/\V.cell? (ak (w.heap.size+1) 1)=some (ae (len:Int))):=ad fun V hV=>HK.later hV
     go_region_held3 (fun V=>V.cell? (ak (w.heap.size+1) 0)=some (af s)/\V.cell? (ak (w.heap.size+1) 1)=some (ae (len:Int)))
      (first|(with_reducible exact HS.out _ aA.drew)|(with_reducible exact HS.out _ hb))
      (first|(go_at_call 237;refine(kW _).mono ?_;rintro e w1 ⟨b,rfl,hM⟩;have hb:aE U w1:=aA.drew.trans hM.below;have hlk:=jS hM s (len:Int) HO.out))
     clear hlk hM
     go_wp2_with fail
     go_ret
     exact⟨by rw[HR.out];rfl,HK.below.trans (hb.mono HK.below.size)⟩
  ·have HR:=ad (show bI k s len= -1 by unfold bI;rw[if_neg h3,if_neg h4])
   have h3':(k==3)=false:=beq_false_of_ne h3
   have h4':(k==4)=false:=beq_false_of_ne h4
   clear h3 h4
   go_enter func145,ntmps145
   go_wp2_with fail
   go_ret
   exact⟨by rw[HR.out];rfl,aB.alloc (by simp) _⟩
section
variable {G:Nat->Prop} {u wr:World} {t tp:Tm} {gk g cap:Nat} {l0:List Pw} {p:Nat×Nat} {y:TV}
theorem jo.off (h:jo G u t gk (al g (l0.length+1) cap) wr (l0++[(p,tp)])):aS wr u.heap.size 157 1 ip (al g l0.length cap) (l0.map (·.1)):=by
 have h1:=h.row
 rw[List.map_append,List.map_cons,List.map_nil]at h1
 have h2:=aS.front (x:=p) iZ (l:=l0.map (·.1)) (by rw[List.length_map];exact h1)
 rwa[List.length_map]at h2
theorem jo.nil' (h:jo G u t gk (al g (l0.length+1) cap) wr (l0++[(p,tp)])) (hc:∀(j:Nat) v,(aJ y)[j]?=some v->wr.cell? (ak p.1 (p.2+j))=some v) (hl:y.len=0):
 jo G u t (gk-1) (al g l0.length cap) (wr.setCell (ak p.1 (p.2+3)) aj) l0/\0<gk:=by
 have hp:=h.pt (p,tp) (List.mem_append_right _ (List.mem_singleton.2 rfl))
 have hr:=tR hc hl
 have hS:∀b,aR wr 27 b->aR (wr.setCell (ak p.1 (p.2+3)) aj) 27 b:=fun b hb=>hb.setC _ _ _
 have hsz:=h.sz
 have hfw:=h.few
 rw[ja]at hsz hfw
 have ht:1<=tp.size:=by obtain⟨k,n,s,l⟩:=tp;simp only[Tm.size];omega
 simp only[rL]at hsz hfw
 refine⟨⟨h.off.keep fun k hk=>av _ _ _ _ ((h.off.ty hk).ne hp.2.2.1 (by decide)),fun q hq=>(h.pt q (List.mem_append_left _ hq)).recopy hr hS (fun e=>absurd e (by omega)),h.root.recopy hr hS (fun e=>absurd e (by omega)),h.below.setCell hp.1 _,(av _ _ _ _ (Ne.symm hp.2.1)).trans h.rk,by omega,by omega⟩,by omega⟩
def ry (g:Nat) (l:List Tm) (i:Nat):List Pw:=match l with
 |[]=>[]
 |a::r=>((g,i*4),a)::ry g r (i+1)
theorem pQ (g:Nat):∀(l:List Tm) (i:Nat),rL (ry g l i)=Tm.sizes l
 |[],_=>rfl
 |a::r,i=>by rw[ry,rL,pQ g r,Tm.sizes]
theorem rJ (g:Nat):∀(l:List Tm) (i:Nat),(ry g l i).map (·.1)=(List.range l.length).map fun j=>(g,(i+j)*4)
 |[],_=>rfl
 |a::r,i=>by
  rw[ry,List.map_cons,rJ g r,List.length_cons,List.range_succ_eq_map,List.map_cons,List.map_map]
  congr 1
  refine List.map_congr_left fun j _=>?_
  show((g,(i+1+j)*4):Nat×Nat)=(g,(i+(j+1))*4)
  congr 2
  omega
theorem qH (g:Nat):∀(l:List Tm) (i:Nat) (q:Pw),q∈ry g l i->∃j,l[j]?=some q.2/\q.1=(g,(i+j)*4)
 |[],_,_,h=>by cases h
 |a::r,i,q,h=>by
  rw[ry]at h
  rcases List.mem_cons.1 h with rfl|h
  ·exact⟨0,rfl,rfl⟩
  ·obtain⟨j,h1,h2⟩:=qH g r (i+1) q h
   exact⟨j+1,h1,by rw[h2];congr 2;omega⟩
theorem jo.kids' {W2 wi:World} {b off n gn:Nat} {zs:List TV} {v:Value} (h:jo G u t gk (al g (l0.length+1) cap) wr (l0++[(p,tp)])) (hc:∀(j:Nat) v,(aJ y)[j]?=some v->wr.cell? (ak p.1 (p.2+j))=some v) (hn:y.len=n) (hA:y.A=some (ak b off)) (hz:zs.length=n) (hta:tp.args.length=n)
 (hs:∀(i:Nat) z,zs[i]?=some z->∀(j:Nat) v,(aJ z)[j]?=some v->wr.cell? (ak b (off+i*4+j))=some v) (hts:∀(i:Nat) z a,zs[i]?=some z->tp.args[i]?=some a->aI wr (Ej G u wr) z a) (hgn:gn=wr.heap.size)
 (hW:W2=(wr.alloc (.cells (zs.flatMap aJ).toArray 27)).setCell (ak p.1 (p.2+3)) (al wr.heap.size n n)) (hf:eL 0 [157] W2 wi) (hbi:Below u.heap.size W2 wi) (hr:aS wi u.heap.size 157 1 ip v (l0.map (·.1)++(List.range n).map fun i=>(gn,i*4))):
 jo G u t (gk-1) v wi (l0++ry gn tp.args 0)/\0<gk:=by
 have hp:=h.pt (p,tp) (List.mem_append_right _ (List.mem_singleton.2 rfl))
 have hrc:=tc hc hp.2.2.1.lt hA hn hz hs
 rw[<-hW,<-hgn]at hrc
 have hpl:=hp.2.2.1.lt
 have hnew:aR W2 27 gn:=by
  rw[hW,hgn]
  exact aR.setC ⟨_,az⟩ _ _ _
 have hnew2:Ej G u W2 gn:=⟨hnew,(fun e=>by have:=(ap h.rk).1;omega),fun e=>by have:=(ap h.rk).1;omega⟩
 have hS:∀b,aR wr 27 b->aR W2 27 b:=fun b hb=>by
  rw[hW]
  exact(hb.keep (aw _ _ _ hb.lt)).setC _ _ _
 have hk:∀b,aR W2 27 b->wi.heap[b]?=W2.heap[b]?:=fun b hb=>hf.block hb (by decide)
 have hsz:=h.sz
 have hfw:=h.few
 rw[ja]at hsz hfw
 simp only[rL]at hsz hfw
 have ht:tp.size=1+Tm.sizes tp.args:=by obtain⟨k,n,s,l⟩:=tp;rfl
 have hbl:aE u W2:=by
  rw[hW]
  exact(h.below.alloc h.below.size _).setCell hp.1 _
 have hrk2:W2.heap[u.heap.size+1]?=some (.cells #[ae 0,ae 0,ai,aj] 27 (0,0)):=by
  rw[hW,av _ _ _ _ (Ne.symm hp.2.1),aw _ _ _ (ap h.rk).1]
  exact h.rk
 refine⟨⟨?_,fun q hq=>?_,(h.root.recopy hrc hS fun _=>hnew2).keep hk,hbl.trans hbi,(hk _ ⟨_,hrk2⟩).trans hrk2,?_,?_⟩,by omega⟩
 ·rw[List.map_append,rJ,hta]
  simpa using hr
 ·rcases List.mem_append.1 hq with hq|hq
  ·exact((h.pt q (List.mem_append_left _ hq)).recopy hrc hS fun _=>hnew2).keep hk
  ·obtain⟨j,h1,h2⟩:=qH gn tp.args 0 q hq
   obtain⟨z,hzz⟩:∃z,zs[j]?=some z:=⟨_,au (by have:=(aq h1).1;omega)⟩
   refine nY.keep ?_ hk
   rw[h2]
   refine⟨by have:=h.below.size;simp only;omega,fun e=>?_,hnew,z,fun i v hv=>?_,(hrc.term (S':=Ej G u W2) (fun b hb=>⟨hS b hb.1,hb.2⟩) (fun _=>hnew2) q.2.size q.2 aC).1 z (hts j z q.2 hzz h1)⟩
   ·simp only at e
    have:=(ap h.rk).1
    omega
   ·have hj:=(aq hv).1
    rw[bh]at hj
    have hjl:=(aq hzz).1
    rw[Nat.zero_add]
    exact hrc.copy b off (j*4+i) v hA (by omega) (by rw[<-Nat.add_assoc];exact hs j z hzz i v hv)
 ·rw[ja,pQ];omega
 ·rw[ja,pQ];omega
theorem vh (u:World) (x:TV) (t:Tm) (hx:aI u (fun b=>aR u 27 b/\G b) x t) (hsz:t.size<=100000):
 Calls prog 69 #[aU x] u fun e u'=>∃y:TV,e=.returned (aU y)/\aI u' (fun b=>aR u' 27 b/\(b<u.heap.size->G b)) y t/\aE u u':=by
 refine aa fun P hP=>?_
 have HP:=ad hP
 obtain⟨i0,z0,hi0,hz0,hz1,hz2,hz3⟩:=xJ
 obtain⟨k,n0,s,A,n,c⟩:=x
 obtain⟨W,hW⟩:∃W,W=((u.alloc (.cells #[ae k,ae n0,af s,.slice A n c] 27)).alloc (.cells #[ae 0,ae 0,ai,aj] 27)).alloc (.cells #[ah u.heap.size] 157):=⟨_,rfl⟩
 have HI0:Hid (jo G u t t.size (al (u.heap.size+1+1) 1 1) W [((u.heap.size,0),t)]):=ad (by
  have hb:aE u W:=by rw[hW];exact(aB.alloc (by simp) _).alloc (by simp;omega) _
  have h0:W.heap[u.heap.size]?=some (.cells #[ae k,ae n0,af s,.slice A n c] 27 (0,0)):=by
   rw[hW,aw _ _ _ (by simp;omega),aw _ _ _ (by simp)]
   exact az
  have h1:W.heap[u.heap.size+1]?=some (.cells #[ae 0,ae 0,ai,aj] 27 (0,0)):=by
   rw[hW,aw _ _ _ (by simp)]
   have:=heap_alloc_new (u.alloc (.cells #[ae k,ae n0,af s,.slice A n c] 27)) (.cells #[ae 0,ae 0,ai,aj] 27)
   rwa[World.size_alloc]at this
  obtain⟨g0,g1,g2,g3,-⟩:=aH h0
  have hpt:nY G u W (u.heap.size,0) t:=by
   refine⟨aC,by simp,⟨_,h0⟩,⟨k,n0,s,A,n,c⟩,fun j v hv=>?_,hx.keep (fun b hb'=>⟨hb'.1.keep (hb.block b hb'.1.lt),by have:=hb'.1.lt;omega,fun _=>hb'.2⟩) fun b hb'=>hb.block b hb'.1.lt⟩
   rw[Nat.zero_add]
   obtain _|_|_|_|j:=j
   ·injection hv with hv;rw[<-hv];exact g0
   ·injection hv with hv;rw[<-hv];exact g1
   ·injection hv with hv;rw[<-hv];exact g2
   ·injection hv with hv;rw[<-hv];exact g3
   ·simp[aJ]at hv
  refine⟨?_,fun q hq=>?_,hpt,hb,h1,by simp[rL],by simp only[rL];omega⟩
  ·have:=aS.one (B:=u.heap.size) (e:=157) iZ ((u.alloc (.cells #[ae k,ae n0,af s,.slice A n c] 27)).alloc (.cells #[ae 0,ae 0,ai,aj] 27)) ((u.heap.size,0):Nat×Nat) (by simp;omega)
   rw[hW]
   simpa[ip]using this
  ·rw[List.mem_singleton]at hq
   rw[hq]
   exact hpt)
 clear hP hx hsz
 unfold aU
 go_enter func69,ntmps69
 go_upto_region 2 with fail
 rw[<-hW]
 clear hW
 go_loopg [3] t.size (fun gk v wr=>∃ps,Hid (jo G u t gk v wr ps))
 case atStart=>exact⟨_,HI0⟩
 case round=>
  obtain⟨ps,HI⟩:=hrel
  clear HI0
  by_cases hnil:ps=[]
  ·subst hnil
   obtain⟨A2,c2,e2⟩:=HI.row.shape
   rw[List.map_nil,List.length_nil]at e2
   subst e2
   obtain⟨-,-,-,y,hy,hyt⟩:=HI.root
   have y0:wr.cell? (ak u.heap.size 0)=some (ae y.k):=hy 0 _ rfl
   have y1:wr.cell? (ak u.heap.size 1)=some (ae y.n):=hy 1 _ rfl
   have y2:wr.cell? (ak u.heap.size 2)=some (af y.s):=hy 2 _ rfl
   have y3:wr.cell? (ak u.heap.size 3)=some (.slice y.A y.len y.cap):=hy 3 _ rfl
   obtain⟨r0,r1,r2,r3,rf⟩:=aH HI.rk
   have HT:=ad hyt
   have hf:=bc HI.rk rfl (ae y.k) (ae y.n) (af y.s) (.slice y.A y.len y.cap)
   obtain⟨rk,hrk⟩:∃rk,rk=u.heap.size+1:=⟨_,rfl⟩
   rw[<-hrk]at r0 r1 r2 r3 rf hf⊢
   obtain⟨WF,hWF⟩:∃WF,WF=((((wr.setCell (ak rk 0) (ae y.k)).setCell (ak rk 1) (ae y.n)).setCell (ak rk 2) (af y.s)).setCell (ak rk 3) (.slice y.A y.len y.cap)):=⟨_,rfl⟩
   have HQ:Hid (P (.returned (aU y)) WF):=ad (by
    rw[HP.out]
    have hk:∀b,b≠rk->WF.heap[b]?=wr.heap[b]?:=fun b hb=>by rw[hWF];exact aM _ _ _ _ hb
    refine⟨y,rfl,HT.keep (fun b hb=>⟨hb.1.keep (hk b (by rw[hrk];exact hb.2.1)),hb.2.2⟩) fun b hb=>hk b (by rw[hrk];exact hb.2.1),?_⟩
    rw[hWF]
    have h2:u.heap.size<=rk:=by omega
    exact(((HI.below.setCell (p:=(ak rk 0)) h2 _).setCell (p:=(ak rk 1)) h2 _).setCell (p:=(ak rk 2)) h2 _).setCell (p:=(ak rk 3)) h2 _)
   rw[<-hWF]at hf
   have HWF:=ad hWF
   have HF4:=ad hf
   clear hWF hf hy hyt hrk
   go_wp2_with fail
   rw[<-HWF.out]
   obtain⟨f0,f1,f2,f3,-⟩:=aH HF4.out
   exact bodyPost_ret (v:=aU y) (by simp[results,results69,go_sem,f0,f1,f2,f3,aU]) rfl HQ.out
  ·obtain⟨l0,z,rfl⟩:∃l0 p,ps=l0++[p]:=⟨_,_,(List.dropLast_concat_getLast hnil).symm⟩
   obtain⟨⟨pb,po⟩,tp⟩:=z
   obtain⟨g,cap,e1,g1,g2,g3,g4⟩:=HI.row.cells iZ (by simp)
   have hll:((l0++[((pb,po),tp)]).map (·.1)).length=l0.length+1:=by simp
   rw[hll]at e1 g3
   subst e1
   have q0:=(g4 l0.length (pb,po) (by rw[List.map_append,List.getElem?_append_right (by simp),List.length_map,Nat.sub_self];rfl) 0 _ rfl).1
   rw[Nat.mul_one,Nat.add_zero]at q0
   simp only at q0
   obtain⟨-,hpr,hpt,y,hy,hyt⟩:=HI.pt ((pb,po),tp) (List.mem_append_right _ (List.mem_singleton.2 rfl))
   simp only at hpr hpt hy hyt
   have y3:wr.cell? (ak pb (po+3))=some (.slice y.A y.len y.cap):=hy 3 _ rfl
   have hpl:=hpt.lt
   have yf:∀o,wr.frozen? ⟨pb,o,none⟩=false:=fun o=>by
    obtain⟨cs9,h9⟩:=hpt
    simp[World.frozen?,h9]
   have hfl:=vF (l0++[((pb,po),tp)])
   have hfew:=HI.few
   rw[List.length_append,List.length_singleton]at hfl
   have hw1:IntKind.i64.wrap (((l0.length+1:Nat):Int)-1)=(l0.length:Int):=by rw[IntWalk.i64_in _ (by omega)];omega
   have hw2:IntKind.i64.wrap (l0.length:Int)=(l0.length:Int):=IntWalk.i64_in _ (by omega)
   have hn0:(0:Int)<=(l0.length:Int):=by omega
   have hn1:(0:Int)<(l0.length:Int)+1:=by omega
   have hn2:(l0.length:Int)<(l0.length:Int)+1:=by omega
   have hn4:l0.length<l0.length+1:=by omega
   have hn7:l0.length<=cap:=by omega
   have HY:=ad (aD hy hyt)
   have hl0n:l0.length<=1000000:=by omega
   clear g4 hnil hll hpr hpt hy hyt hfl hfew
   by_cases hyn:y.len=0
   ·have b1:((y.len:Int)==0)=true:=by rw[hyn];rfl
    have HNX:=ad (HI.nil' HY.1 hyn)
    have hgk:=HNX.2
    have hlt:gk-1<gk:=by omega
    clear hyn
    go_wp2_with fail
    go_roundg (gk-1)
    case measure=>exact hlt
    case rel=>exact⟨_,ad HNX.1⟩
   ·have b1:((y.len:Int)==0)=false:=beq_eq_false_iff_ne.2 (by omega)
    obtain⟨zs,b,off,z1,z2,z3,z4,z5,z6⟩:=tW HY.2 (by omega)
    obtain⟨m,hm⟩:∃m,m=y.len:=⟨_,rfl⟩
    have hm1:m<=1000000:=by
     have h1:=HI.few
     rw[ja]at h1
     simp only[rL]at h1
     have h2:tp.args.length+1<=tp.size:=by
      obtain⟨k9,n9,s9,l9⟩:=tp
      have:∀l:List Tm,l.length<=Tm.sizes l:=by
       intro l
       induction l with
       |nil=>exact aC
       |cons a r ih=>
        obtain⟨k8,n8,s8,l8⟩:=a
        simp only[List.length_cons,Tm.sizes,Tm.size]
        omega
      have:=this l9
      simp only[Tm.size,Tm.args]
      omega
     omega
    have hmk:=gH wr m hm1
    have hcp:=ud wr zs b off m y.cap (z1.trans hm.symm) z5
    obtain⟨gn,hgn⟩:∃gn,gn=wr.heap.size:=⟨_,rfl⟩
    obtain⟨V0,hV0⟩:∃V,V=wr.alloc (.cells ((List.replicate m eV).flatMap aJ).toArray 27):=⟨_,rfl⟩
    obtain⟨V1,hV1⟩:∃V,V=wr.alloc (.cells (zs.flatMap aJ).toArray 27):=⟨_,rfl⟩
    obtain⟨W2,hW2⟩:∃W,W=V1.setCell (ak pb (po+3)) (al gn m m):=⟨_,rfl⟩
    rw[<-hV0,<-hgn]at hmk
    rw[<-hV0,<-hV1,<-hgn]at hcp
    have hb0:aE wr V0:=by rw[hV0];exact aB
    have hb1:aE wr V1:=by rw[hV1];exact aB
    rw[z3,<-hm]at y3
    have y3a:V0.cell? (ak pb (po+3))=some (.slice (some (ak b off)) m y.cap):=(hb0.cell (p:=(ak pb (po+3))) hpl).trans y3
    have y3b:V1.cell? (ak pb (po+3))=some (.slice (some (ak b off)) m y.cap):=(hb1.cell (p:=(ak pb (po+3))) hpl).trans y3
    have yfb:∀o,V1.frozen? ⟨pb,o,none⟩=false:=fun o=>(World.frozen?_of_block (w:=wr) (a:=⟨pb,o,none⟩) (hb1.block _ hpl)).trans (yf o)
    have hpl0:pb<V0.heap.size:=Nat.lt_of_lt_of_le hpl hb0.size
    have hpl1:pb<V1.heap.size:=Nat.lt_of_lt_of_le hpl hb1.size
    rw[<-hm]at b1
    have HZ:=ad (aD z1 (aD z2 (aD z3 (aD z5 z6))))
    have HM:=ad hm
    have HGN:=ad hgn
    have HW2:Hid (W2=(wr.alloc (.cells (zs.flatMap aJ).toArray 27)).setCell (ak pb (po+3)) (al wr.heap.size m m)/\aE u W2/\gn<W2.heap.size/\aS W2 u.heap.size 157 1 ip (al g l0.length cap) (l0.map (·.1))/\u.heap.size<=W2.heap.size):=ad (by
     have hp:=HI.pt ((pb,po),tp) (List.mem_append_right _ (List.mem_singleton.2 rfl))
     have h1:W2.heap.size=V1.heap.size:=by rw[hW2,World.size_setCell]
     have h2:V1.heap.size=wr.heap.size+1:=by rw[hV1];simp
     have h3:=HI.below.size
     refine⟨by rw[hW2,hV1,hgn],by rw[hW2];exact(HI.below.trans (hb1.mono h3)).setCell hp.1 _,by omega,?_,by omega⟩
     rw[hW2]
     exact(HI.off.later hb1).keep fun k hk=>av _ _ _ _ ((HI.off.ty hk).ne hp.2.2.1 (by decide))|>.trans rfl)
    have HCP:=ad hcp
    have HW2E:=ad hW2
    clear z1 z2 z3 z4 z5 z6 hm hb0 hb1 hgn hyn hcp hV1 hW2
    go_upto_region 8 with fail
    rw[<-hV0]
    clear hV0 hmk
    have hcp:=HCP.out
    go_wp2_with fail
    clear hcp HCP
    rw[<-HW2E.out]
    clear y3 y3a y3b yf yfb hpl hpl0 hpl1 q0 b1
    obtain⟨wl,hwl⟩:∃wl:World,wl=wr:=⟨_,rfl⟩
    subst hwl
    go_loopw [3,49] (fun v i wi=>∃(j:Nat),i=ae (j:Nat)/\j<=m/\Hid (aS wi u.heap.size 157 1 ip v (l0.map (·.1)++(List.range j).map fun i=>(gn,i*4))/\eL 0 [157] W2 wi/\Below u.heap.size W2 wi)) (fun _ i _=>m-(intOf i).toNat)
    case atStart=>exact⟨0,rfl,Nat.zero_le _,ad ⟨by simpa using HW2.2.2.2.1,eL.refl _ _,aA⟩⟩
    case round=>
     obtain⟨j,rfl,hj,HJ⟩:=hrel
     by_cases hlt:j<m
     ·have hlt1:(j:Int)<(m:Int):=by omega
      have hge:(0:Int)<=(j:Int):=by omega
      have hwj:IntKind.i64.wrap ((j:Int)+1)=(j:Int)+1:=IntWalk.i64_in _ (by omega)
      obtain⟨A8,c8,e8⟩:=HJ.1.shape
      subst e8
      obtain⟨L,hL⟩:∃L:List (Nat×Nat),L=l0.map (·.1)++(List.range j).map fun i=>(gn,i*4):=⟨_,rfl⟩
      rw[<-hL]at HJ⊢
      have HLL:Hid (L=l0.map (·.1)++(List.range j).map (fun i=>(gn,i*4))/\L.length<=3000000):=ad ⟨hL,by rw[hL];simp;omega⟩
      have hLn:=HLL.2
      have hus:u.heap.size<=wr.heap.size:=Nat.le_trans HW2.2.2.2.2 HJ.2.1.size
      have HJR:=ad HJ.1
      clear hL
      go_wp2_with (at_builtin;refine cK rfl _ _ 158 rfl _ u.heap.size 157 i0 z0 1 8 ip underlying158 hi0 hz0 hz1 hz2 hz3 (by decide) iZ wL (.slice A8 L.length c8) L (gn,j*4) rfl (HJR.alloc _) _ 1 rfl (fun j1 w hw=>by rw[bV _ _ _ j1 w (by rw[<-Array.getElem?_toList];simpa[ip]using hw)]) (by unfold maxLen;omega) (by omega) (by simp;omega) ?_)
      intro v' w9 hr hg
      have HNX:Hid (aS w9 u.heap.size 157 1 ip v' (l0.map (·.1)++(List.range (j+1)).map fun i=>(gn,i*4))/\eL 0 [157] W2 w9/\Below u.heap.size W2 w9):=ad (by
       refine⟨?_,(HJ.2.1.alloc _).grown hg fun g e=>.inl ⟨Nat.zero_le _,157,by decide,(HJR.ty e).keep (aw _ _ _ (HJR.ty e).lt)⟩,(HJ.2.2.alloc hus _).grown hg (by simp;omega) fun k hk=>(HJR.lt k hk).1⟩
       rw[List.range_succ,List.map_append,<-List.append_assoc,<-HLL.1]
       exact hr)
      clear hr hg
      go_wp2_with fail
      go_roundw
      case rel=>exact⟨j+1,rfl,by omega,HNX⟩
      case measure=>
       simp only[intOf]
       omega
     ·obtain rfl:j=m:=by omega
      have hng:¬(j:Int)<(j:Int):=by omega
      have HNX:=ad (HI.kids' HY.1 HM.symm HZ.2.2.1 (HZ.1.trans HM.symm) (HZ.2.1.trans HM.symm) HZ.2.2.2.1 HZ.2.2.2.2 HGN.out HW2.1 HJ.2.1 HJ.2.2 HJ.1)
      have hgk:=HNX.2
      have hlt9:gk-1<gk:=by omega
      clear hlt
      go_wp2_with fail
      go_roundg (gk-1)
      case measure=>exact hlt9
      case rel=>exact⟨_,ad HNX.1⟩
end
end
section
open Go.RowKit Go.Maps
abbrev CK (u:World) (G:Nat->Prop) (b:Nat):Prop:=aR u 27 b/\G b
abbrev uc (u u':World) (G:Nat->Prop) (b:Nat):Prop:=aR u' 27 b/\(b<u.heap.size->G b)
structure ut (u w WF:World) (rk:Nat) (y:TV):Prop where
 blk:WF.heap[rk]?=some (.cells #[ae y.k,ae y.n,af y.s,.slice y.A y.len y.cap] 27 (0,0))
 off:∀b,b≠rk->WF.heap[b]?=w.heap[b]?
 below:aE u w->aE u WF
theorem oG {u w:World} {rk:Nat} {cs:Array Value} (h:w.heap[rk]?=some (.cells cs 27 (0,0))) (hs:cs.size=4) (hr:u.heap.size<=rk) (y:TV):
 ut u w ((((w.setCell (ak rk 0) (ae y.k)).setCell (ak rk 1) (ae y.n)).setCell (ak rk 2) (af y.s)).setCell (ak rk 3) (.slice y.A y.len y.cap)) rk y:=
 ⟨bc h hs _ _ _ _,fun _ hb=>aM _ _ _ _ hb,fun h=>(((h.setCell (p:=(ak rk 0)) hr _).setCell (p:=(ak rk 1)) hr _).setCell (p:=(ak rk 2)) hr _).setCell (p:=(ak rk 3)) hr _⟩
theorem aI.move {u u':World} {S S':Nat->Prop} {x:TV} {t:Tm} (h:aI u S x t) (hs:∀b,S b->S' b/\u'.heap[b]?=u.heap[b]?):aI u' S' x t:=h.keep (fun b hb=>(hs b hb).1) fun b hb=>(hs b hb).2
theorem zv (u:World) (G:Nat->Prop) (x:TV) (t:Tm) (hx:aI u (CK u G) x t) (hsz:t.size<=100000) (hs:x.s.length<=maxLen) (hl:(x.len:Int)<=9223372036854775807) (hk:x.k=3\/x.k=4) (hkd:bI x.k x.s x.len≠2/\bI x.k x.s x.len≠3/\bI x.k x.s x.len≠4):
 Calls prog 144 #[aU x] u fun e u'=>∃y:TV,e=.returned (.tuple #[aU y,.bool true])/\aI u' (uc u u' G) y t/\aE u u':=by
 refine aa fun P hP=>?_
 have HP:=ad hP
 obtain⟨k,n,s,A,len,cap⟩:=x
 dsimp only at hs hl hk hkd
 have hk1:(k==1)=false:=beq_false_of_ne (by omega)
 have hk2:(k !=2)=true:=by rw[bne_iff_ne];omega
 obtain⟨kd,hkdE⟩:∃kd,kd=bI k s len:=⟨_,rfl⟩
 rw[<-hkdE]at hkd
 have q2:(kd==2)=false:=beq_false_of_ne hkd.1
 have q3:(kd==3)=false:=beq_false_of_ne hkd.2.1
 have q4:(kd==4)=false:=beq_false_of_ne hkd.2.2
 obtain⟨W,hW⟩:∃W,W=(u.alloc (.cells #[ae k,ae n,af s,.slice A len cap] 27)).alloc (.cells #[ae 0,ae 0,ai,aj] 27):=⟨_,rfl⟩
 have hbW:aE u W:=by rw[hW];exact aB.alloc (by simp) _
 have h0:W.heap[u.heap.size]?=some (.cells #[ae k,ae n,af s,.slice A len cap] 27 (0,0)):=by
  rw[hW,aw _ _ _ (by simp)]
  exact az
 have h1:W.heap[u.heap.size+1]?=some (.cells #[ae 0,ae 0,ai,aj] 27 (0,0)):=by
  have:=heap_alloc_new (u.alloc (.cells #[ae k,ae n,af s,.slice A len cap] 27)) (.cells #[ae 0,ae 0,ai,aj] 27)
  rw[World.size_alloc]at this
  rw[hW];exact this
 have HB:=ad hbW
 have H0:=ad h0
 have H1:=ad h1
 have HX:=ad hx
 have HZ:=ad (aD hsz (aD hs hl))
 have HK:=ad hkdE
 obtain⟨z0,z1,z2,z3,-⟩:=aH h0
 clear hP hx hsz hs hl hk hkd hbW h0 h1 hkdE
 unfold aU
 go_enter func144,ntmps144
 go_upto_region 1 with fail
 rw[<-hW]
 clear hW
 go_wp2_with fail
 refine(kg W ⟨k,n,s,A,len,cap⟩ HZ.2.1 HZ.2.2).mono ?_
 rintro e w1 ⟨rfl,hb1⟩
 rw[show bI (TV.k ⟨k,n,s,A,len,cap⟩) (TV.s ⟨k,n,s,A,len,cap⟩) (TV.len ⟨k,n,s,A,len,cap⟩)=kd from HK.symm]
 have hlt1:u.heap.size+1<W.heap.size:=(ap H1.out).1
 have HB1:=ad (HB.trans (hb1.mono HB.size))
 have H01:Hid (∀v,aE w1 v->v.heap[u.heap.size]?=some (.cells #[ae k,ae n,af s,.slice A len cap] 27 (0,0))/\v.heap[u.heap.size+1]?=some (.cells #[ae 0,ae 0,ai,aj] 27 (0,0))):=ad fun v hv=>by
  have h1:=hb1.size
  exact⟨((hv.block _ (by omega)).trans (hb1.block _ (by omega))).trans H0.out,((hv.block _ (by omega)).trans (hb1.block _ hlt1)).trans H1.out⟩
 have HS:Hid (∀v,aE w1 v->(v.cell? (ak u.heap.size 0)=some (ae k)/\v.cell? (ak u.heap.size 1)=some (ae n)/\v.cell? (ak u.heap.size 2)=some (af s)/\v.cell? (ak u.heap.size 3)=some (.slice A len cap))):=ad fun v hv=>by
  obtain⟨a,b,c,d,-⟩:=aH (H01.out v hv).1
  exact⟨a,b,c,d⟩
 clear hb1 hlt1 z0 z1 z2 z3 HB H0 H1 HK
 go_upto_region 14 with fail
 obtain⟨rk,hrk⟩:∃rk,rk=u.heap.size+1:=⟨_,rfl⟩
 have HOW:Hid (Calls prog 69 #[.agg #[ae k,ae n,af s,.slice A len cap]] w1.drew fun e w2=>∃y:TV,e=.returned (aU y)/\aI w2 (uc w1.drew w2 fun b=>b<u.heap.size/\G b) y t/\Below w1.heap.size w1.drew w2):=ad (by
  refine vh w1.drew ⟨k,n,s,A,len,cap⟩ t (G:=fun b=>b<u.heap.size/\G b) (HX.move fun b hb=>?_) HZ.1
  exact⟨⟨hb.1.keep (HB1.block b hb.1.lt),hb.1.lt,hb.2⟩,HB1.block b hb.1.lt⟩)
 have HC:Hid (∀(y:TV) (w2:World),aI w2 (uc w1.drew w2 fun b=>b<u.heap.size/\G b) y t->Below w1.heap.size w1.drew w2→
  ((w2.cell? (ak u.heap.size 0)=some (ae k)/\w2.cell? (ak u.heap.size 1)=some (ae n)/\w2.cell? (ak u.heap.size 2)=some (af s)/\w2.cell? (ak u.heap.size 3)=some (.slice A len cap))∧
  (w2.cell? (ak rk 0)=some (ae 0)/\w2.cell? (ak rk 1)=some (ae 0)/\w2.cell? (ak rk 2)=some ai/\w2.cell? (ak rk 3)=some aj/\(∀o,w2.frozen? ⟨rk,o,none⟩=false))∧
  ∀WF,WF=((((w2.setCell (ak rk 0) (ae y.k)).setCell (ak rk 1) (ae y.n)).setCell (ak rk 2) (af y.s)).setCell (ak rk 3) (.slice y.A y.len y.cap))→
   (WF.cell? (ak u.heap.size 0)=some (ae k)/\WF.cell? (ak u.heap.size 1)=some (ae n)/\WF.cell? (ak u.heap.size 2)=some (af s)/\WF.cell? (ak u.heap.size 3)=some (.slice A len cap))∧
   WF.heap[rk]?=some (.cells #[ae y.k,ae y.n,af y.s,.slice y.A y.len y.cap] 27 (0,0))/\P (.returned (.tuple #[aU y,.bool true])) WF)):=ad fun y w2 ht hb=>by
  have hb':aE w1 w2:=aA.drew.trans hb
  have h1:=H01.out w2 hb'
  refine⟨HS.out w2 hb',by rw[hrk];exact aH h1.2,fun WF hWF=>?_⟩
  have hp:ut u w2 WF rk y:=by rw[hWF];exact oG (hrk▸h1.2) rfl (by omega) y
  have hk:∀b,aR w2 27 b->(b<w1.heap.size->b<u.heap.size/\G b)->b≠rk/\(b<u.heap.size->G b):=fun b hb1 hb2=>
   ⟨fun e=>by have:=(ap (H01.out w1 aA).2).1;have:=(hb2 (by omega)).1;omega,fun h=>by have:=HB1.size;exact(hb2 (by omega)).2⟩
  obtain⟨a,b,c,d,-⟩:=aH ((hp.off _ (by omega)).trans h1.1)
  refine⟨⟨a,b,c,d⟩,hp.blk,?_⟩
  rw[HP.out]
  refine⟨y,rfl,ht.move fun b hb=>?_,hp.below (HB1.trans (hb'.mono HB1.size))⟩
  have:=hk b hb.1 hb.2
  exact⟨⟨hb.1.keep (hp.off b this.1),this.2⟩,hp.off b this.1⟩
 subst hrk
 clear H01 HX HZ HP HB1
 go_region_held3 (fun v=>(v.cell? (ak u.heap.size 0)=some (ae k)/\v.cell? (ak u.heap.size 1)=some (ae n)/\v.cell? (ak u.heap.size 2)=some (af s)/\v.cell? (ak u.heap.size 3)=some (.slice A len cap)))
  (first|(with_reducible exact HS.out _ aA.drew)|(with_reducible exact HA)|(with_reducible exact(HC2 _ rfl).1))
  (first|(go_at_call 69;refine HOW.mono ?_;rintro e w2 ⟨y,rfl,ht2,hb2⟩;obtain⟨HA,⟨r0,r1,r2,r3,rf⟩,HC2⟩:=HC.out y w2 ht2 hb2;unfold aU))
 clear HA r0 r1 r2 r3 rf ht2 hb2 HOW HC HS
 obtain⟨rk,hrk⟩:∃rk,rk=u.heap.size+1:=⟨_,rfl⟩
 rw[<-hrk]at HC2⊢
 obtain⟨WF,hWF⟩:∃WF,WF=((((w2.setCell (ak rk 0) (ae y.k)).setCell (ak rk 1) (ae y.n)).setCell (ak rk 2) (af y.s)).setCell (ak rk 3) (.slice y.A y.len y.cap)):=⟨_,rfl⟩
 have HQ:=ad (HC2 _ hWF).2
 rw[<-hWF]
 clear hWF hrk HC2
 go_wp2_with fail
 obtain⟨f0,f1,f2,f3,-⟩:=aH HQ.1
 exact bodyPost_ret (v:=.tuple #[aU y,.bool true]) (by simp[results,results144,go_sem,f0,f1,f2,f3,aU]) rfl HQ.2
theorem nD (u:World) (G:Nat->Prop) (x:TV) (t:Tm) (hx:aI u (CK u G) x t) (hm:t.may=true) (hsz:t.size<=2000) (hs:x.s.length<=maxLen) (hl:(x.len:Int)<=9223372036854775807) (hk:x.k=3\/x.k=4) (hkd:bI x.k x.s x.len≠2/\bI x.k x.s x.len≠3/\bI x.k x.s x.len≠4):
 Calls prog 70 #[aU x] u fun e u'=>∃y:TV,e=.returned (.tuple #[aU y,ae 0])/\aI u' (uc u u' G) y t/\aE u u':=by
 refine aa fun P hP=>?_
 have HP:=ad hP
 obtain⟨X,hX⟩:∃X,X=x:=⟨_,rfl⟩
 obtain⟨W,hW⟩:∃W,W=(u.alloc (.cells #[ae x.k,ae x.n,af x.s,.slice x.A x.len x.cap] 27)).alloc (.cells #[ae 0,ae 0,ai,aj] 27):=⟨_,rfl⟩
 have hbW:aE u W:=by rw[hW];exact aB.alloc (by simp) _
 have h0:W.heap[u.heap.size]?=some (.cells #[ae x.k,ae x.n,af x.s,.slice x.A x.len x.cap] 27 (0,0)):=by
  rw[hW,aw _ _ _ (by simp)]
  exact az
 have h1:W.heap[u.heap.size+1]?=some (.cells #[ae 0,ae 0,ai,aj] 27 (0,0)):=by
  have:=heap_alloc_new (u.alloc (.cells #[ae x.k,ae x.n,af x.s,.slice x.A x.len x.cap] 27)) (.cells #[ae 0,ae 0,ai,aj] 27)
  rw[World.size_alloc]at this
  rw[hW];exact this
 have HXW:Hid (aI W (CK W fun b=>b<u.heap.size/\G b) x t):=ad (hx.move fun b hb=>⟨⟨hb.1.keep (hbW.block b hb.1.lt),hb.1.lt,hb.2⟩,hbW.block b hb.1.lt⟩)
 have HB:=ad hbW
 have H01:=ad (aD h0 h1)
 have HZ:=ad (aD hsz (aD hm (aD hs (aD hl (aD hk hkd)))))
 obtain⟨z0,z1,z2,z3,-⟩:=aH h0
 have hlW:u.heap.size+1<W.heap.size:=(ap h1).1
 clear hP hx hm hsz hs hl hk hkd hbW h0 h1
 unfold aU
 go_enter func70,ntmps70
 go_upto_region 1 with fail
 rw[<-hW]
 clear hW
 go_wp2_with fail
 refine(cY W x t (HXW.at fun b hb=>hb.1.lt) (by have:=HZ.1;omega) (by have:=HZ.1;have:=cV t;omega)).mono ?_
 rintro e w1 ⟨rfl,hb1⟩
 rw[ew HZ.2.1 HZ.1]
 have HX1:Hid (aI w1 (CK w1 fun b=>b<u.heap.size/\G b) x t):=ad (HXW.move fun b hb=>⟨⟨hb.1.keep (hb1.block b hb.1.lt),hb.2⟩,hb1.block b hb.1.lt⟩)
 have H11:=ad (aD ((hb1.block _ (by omega)).trans H01.1) ((hb1.block _ hlW).trans H01.2))
 have HB1:=ad (HB.trans (hb1.mono HB.size))
 obtain⟨z0,z1,z2,z3,-⟩:=aH H11.1
 have hl1:u.heap.size+1<w1.heap.size:=(ap H11.2).1
 clear hb1 HXW HB H01 hlW
 go_wp2_with fail
 refine(zv w1 _ x t HX1.out (by have:=HZ.1;omega) HZ.2.2.1 HZ.2.2.2.1 HZ.2.2.2.2.1 HZ.2.2.2.2.2).mono ?_
 rintro e w2 ⟨y,rfl,ht2,hb2⟩
 have hl2:=hb2.size
 have HB2:=ad (HB1.trans (hb2.mono HB1.size))
 have H2:=ad ((hb2.block _ hl1).trans H11.2)
 obtain⟨V,hV⟩:∃V,V=w2.alloc (.cells #[ae y.k,ae y.n,af y.s,.slice y.A y.len y.cap] 27):=⟨_,rfl⟩
 have hbV:aE w2 V:=by rw[hV];exact aB
 have hVn:V.heap[w2.heap.size]?=some (.cells #[ae y.k,ae y.n,af y.s,.slice y.A y.len y.cap] 27 (0,0)):=by rw[hV];exact az
 have HTV:Hid (aI V (fun b=>aR V 27 b/\b<w2.heap.size/\(b<w1.heap.size->b<u.heap.size/\G b)) y t):=ad (ht2.move fun b hb=>⟨⟨hb.1.keep (hbV.block b hb.1.lt),hb.1.lt,hb.2⟩,hbV.block b hb.1.lt⟩)
 have HVN:=ad hVn
 have HVB:=ad hbV
 obtain⟨z0,z1,z2,z3,-⟩:=aH hVn
 clear ht2 hb2 HX1 HB1 H11 hVn hbV
 unfold aU
 go_upto_region 7 with fail
 rw[<-hV]
 clear hV
 go_wp2_with fail
 refine(cY V y t (HTV.at fun b hb=>hb.1.lt) (by have:=HZ.1;omega) (by have:=HZ.1;have:=cV t;omega)).mono ?_
 rintro e w3 ⟨rfl,hb3⟩
 rw[ew HZ.2.1 HZ.1]
 have hl3:w2.heap.size<V.heap.size:=(ap HVN.out).1
 have hB3:aE w2 w3:=HVB.trans (hb3.mono HVB.size)
 obtain⟨z0,z1,z2,z3,-⟩:=aH ((hb3.block _ hl3).trans HVN.out)
 have hr3:=(hB3.block _ (by omega)).trans H2.out
 obtain⟨r0,r1,r2,r3,rf⟩:=aH hr3
 obtain⟨WF,hWF⟩:∃WF,WF=((((w3.setCell (ak (u.heap.size+1) 0) (ae y.k)).setCell (ak (u.heap.size+1) 1) (ae y.n)).setCell (ak (u.heap.size+1) 2) (af y.s)).setCell (ak (u.heap.size+1) 3) (.slice y.A y.len y.cap)):=⟨_,rfl⟩
 have HQ:Hid (WF.heap[u.heap.size+1]?=some (.cells #[ae y.k,ae y.n,af y.s,.slice y.A y.len y.cap] 27 (0,0))/\P (.returned (.tuple #[aU y,ae 0])) WF):=ad (by
  have hp:ut u w3 WF (u.heap.size+1) y:=by rw[hWF];exact oG hr3 rfl (by omega) y
  refine⟨hp.blk,?_⟩
  rw[HP.out]
  refine⟨y,rfl,HTV.move fun b hb=>?_,hp.below (HB2.trans (hB3.mono HB2.size))⟩
  have hne:b≠u.heap.size+1:=fun e=>by have:=(hb.2.2 (by omega)).1;omega
  have hk:=(hp.off b hne).trans (hb3.block b hb.1.lt)
  exact⟨⟨hb.1.keep hk,fun h=>(hb.2.2 (by omega)).2⟩,hk⟩)
 have HWF:=ad hWF
 clear hb3 hB3 hr3 HTV HVN HVB H2 HB2 HZ HP hWF
 go_wp2_with fail
 rw[<-HWF.out]
 obtain⟨f0,f1,f2,f3,-⟩:=aH HQ.1
 exact bodyPost_ret (v:=.tuple #[aU y,ae 0]) (by simp[results,results70,go_sem,f0,f1,f2,f3,aU]) rfl HQ.2
variable[Base]
section
variable {sb room:Nat} {vb:Option Nat} {u u':World} {cv bv:Value} {xs:List ec} {cs:List Sc} {ys:List (Nat×Int)}
def s7 (sb:Nat) (vb:Option Nat) (room:Nat) (u:World) (bv:Value) (cs:List Sc) (ys:List (Nat×Int)) (t:Tm) (e:Ending) (u':World):Prop:=
 e=.returned (.tuple #[ae ((aV t ⟨cs,[]⟩).1:Nat),ae 0])/\(∃cv' xs',aL sb room u' cv' bv xs' (aV t ⟨cs,[]⟩).2.cs ys)/\(∀b,vb=some b->∃l,M6 u' b l/\∀n,aP l n=aP (jD (aV t ⟨cs,[]⟩).2.fr) n)/\Fr (fun k=>vb=some k\/fc iw u k) u u'
theorem yQ (hs:aL sb room u cv bv xs cs ys) (hv:kR u vb) (x:TV) (t:Tm) (hx:aI u (aR u 27) x t) (hm:t.may=true) (h6:∀n∈dP t,fP n) (hsz:t.size<=2000) (hr:cs.length+t.size<=room):
 Calls prog 196 #[ah sb,aU x,.map vb] u (s7 sb vb room u bv cs ys t):=by
 refine aa fun P hP=>?_
 have HP:=ad hP
 have hroom:=hs.room.1
 obtain⟨U,hU⟩:∃U,U=u.alloc (.cells #[ae x.k,ae x.n,af x.s,.slice x.A x.len x.cap] 27):=⟨_,rfl⟩
 have hbU:aE u U:=by rw[hU];exact aB
 have hz:U.heap[u.heap.size]?=some (.cells #[ae x.k,ae x.n,af x.s,.slice x.A x.len x.cap] 27 (0,0)):=by rw[hU];exact az
 obtain⟨z0,z1,z2,z3,-⟩:=aH hz
 have hxU:aI U (aR U 27) x t:=hx.keep (fun b hb=>hb.keep (hbU.block b hb.lt)) fun b hb=>hbU.block b hb.lt
 have H:=ad (aD (hs.later hbU) (aD (hv.later hbU) hxU))
 have HB:=ad hbU
 have HZ:=ad hz
 have HT:=ad (aD hm (aD h6 (aD hsz hr)))
 have hlz:u.heap.size<U.heap.size:=(ap hz).1
 clear hP hs hv hx hm h6 hsz hr hbU hz hxU
 unfold aU
 go_enter func196,ntmps196
 go_upto_region 3 with fail
 rw[<-hU]
 clear hU
 go_wp2_with fail
 refine(cY U x t (H.2.2.at fun b hb=>hb.lt) (by have:=HT.2.2.1;omega) (by have:=HT.2.2.1;have:=cV t;omega)).mono ?_
 rintro e w1 ⟨rfl,hb1⟩
 rw[ew HT.1 HT.2.2.1]
 have hmk:=tF w1
 obtain⟨W2,hW2⟩:∃W2,W2=(w1.alloc (.map #[] 0)).alloc (.cells #[ah sb,.map vb,.map (some w1.heap.size),ae 0] 395):=⟨_,rfl⟩
 have hb2:aE w1 W2:=by rw[hW2];exact aB.alloc (by simp) _
 have hbU2:aE U W2:=hb1.trans (hb2.mono hb1.size)
 obtain⟨fb,hfb⟩:∃fb,fb=w1.heap.size:=⟨_,rfl⟩
 obtain⟨pb,hpb⟩:∃pb,pb=w1.heap.size+1:=⟨_,rfl⟩
 have hpc:eC pb sb vb fb W2 0 []:=by
  refine⟨?_,H.2.1.later hbU2,?_,?_⟩
  ·rw[hW2,hpb,hfb]
   have:=heap_alloc_new (w1.alloc (.map #[] 0)) (.cells #[ah sb,.map vb,.map (some w1.heap.size),ae 0] 395)
   rwa[World.size_alloc]at this
  ·have h1:=(M6.made w1)
   rw[hW2,hfb]
   exact h1.later aB
  ·intro e
   have h1:=(H.2.1.at' _ e).lt
   have h2:=hb1.size
   rw[hfb]at h1
   omega
 have H2:=ad (aD (H.1.later hbU2) (aD hpc (H.2.2.keep (w':=W2) (S':=aR W2 27) (fun b hb=>hb.keep (hbU2.block b hb.lt)) fun b hb=>hbU2.block b hb.lt)))
 have HB2:=ad (dQ HB.out hbU2)
 have hz2:=(hbU2.block _ hlz).trans HZ.out
 have HZ2:=ad hz2
 have hlz2:u.heap.size<W2.heap.size:=(ap hz2).1
 have HFP:Hid (u.heap.size<=fb/\u.heap.size<=pb):=ad (by have h2:=hb1.size;have h3:=HB.size;omega)
 obtain⟨z0',z1',z2',z3',-⟩:=aH hz2
 clear hb1 hb2 hbU2 hpc hz2 z0 z1 z2 z3 hlz H HB HZ
 go_upto_region 7 with fail
 rw[<-hW2,<-hfb,show fb+1=pb by rw[hfb,hpb]]
 clear hW2 hmk hfb hpb
 go_wp2_with fail
 refine(oS pb sb vb fb t.size t W2 x 0 [] aC H2.2.2 H2.2.1 HT.1 HT.2.1 (by have:=HT.2.2.1;omega)).mono ?_
 rintro e W3 ⟨rfl,⟨need,l3,hpc3,hnd⟩,hf3⟩
 have hk3:∀ {b t'},aR W2 t' b->t'≠395->W3.heap[b]?=W2.heap[b]?:=fun {b t'} hb hn=>hf3.block b hb.lt (fun e=>by
  rcases e with e|e
  ·exact hb.ne (t':=395) ⟨_,H2.2.1.blk⟩ hn e
  ·exact H2.2.1.fresh.map.ne hb e.symm)
 have hst3:aL sb room W3 cv bv xs cs ys:=H2.1.keep fun t' b ht hb=>hk3 hb fun e=>by subst e;exact absurd ht (by decide)
 have hx3:aI W3 (aR W3 27) x t:=H2.2.2.keep (fun b hb=>hb.keep (hk3 hb (by decide))) fun b hb=>hk3 hb (by decide)
 have HF3:Hid (Fr (fun k=>vb=some k\/fc iw u k) u W3):=ad ((Fr.of_below _ HB2.out).past hf3 fun j e=>by have:=HFP.out;rcases e with e|e<;>omega)
 have H3:=ad (aD hst3 (aD hpc3 hx3))
 have hz3:=(hk3 (t':=27) ⟨_,HZ2.out⟩ (by decide)).trans HZ2.out
 have HZ3:=ad hz3
 have hlz3:u.heap.size<W3.heap.size:=(ap hz3).1
 obtain⟨p0,p1,p2,p3,pf⟩:=aH hpc3.blk
 have hlp:=hpc3.lt
 have hls:=hst3.lt
 obtain⟨A3,c3,e3⟩:=hst3.slice
 obtain⟨s0,s1,-,sf⟩:=hst3.cells
 rw[e3]at s1
 have hwr:IntKind.i64.wrap ((room:Int)-(cs.length:Int))=(room:Int)-(cs.length:Int):=IntWalk.i64_in _ (by have:=hst3.few;omega)
 have hng:¬((need:Int)>(room:Int)-(cs.length:Int)):=by have:=HT.2.2.2;omega
 clear hk3 hst3 hx3 hz3 hpc3 hf3 z0' z1' z2' z3' hnd HZ2 H2 hlz2 HB2 e3
 go_wp2_with fail
 go_quiet (fail)
 rw[show decide ((room:Int)-(cs.length:Int)<(need:Int))=false from decide_eq_false (by omega)]
 obtain⟨V,hV⟩:∃V,V=W3.drewN nq:=⟨_,rfl⟩
 have hbV:aE W3 V:=by rw[hV];exact gU aA _
 rw[<-hV]
 have HV:=ad (aD (H3.1.later hbV) (aD (H3.2.1.later hbV) (H3.2.2.keep (w':=V) (S':=aR V 27) (fun b hb=>hb.keep (hbV.block b hb.lt)) fun b hb=>hbV.block b hb.lt)))
 have HFV:=ad (HF3.step hbV)
 have HZV:=ad ((hbV.block _ hlz3).trans HZ3.out)
 clear hV hbV hng hwr p0 p1 p2 p3 pf hlp hls s0 s1 sf H3 HF3 HZ3 hlz3
 obtain⟨-,-,p2,-,-⟩:=aH HV.2.1.blk
 have hlp:=HV.2.1.lt
 obtain⟨W4,k4,m4,g4,-⟩:=HV.2.1.fresh.map.clear (P:=prog) (t:=116) (ty:=0) underlying116
 have hk4:∀k,k<V.heap.size->k≠fb->W4.heap[k]?=V.heap[k]?:=fun k hk hn=>g4.block k hk (fun e=>hn (Option.some.inj e))
 have H4:Hid (aL sb room W4 cv bv xs cs ys/\eC pb sb vb fb W4 need (jD [])/\aI W4 (aR W4 27) x t):=ad (by
  have hT:∀ {b t'},aR V t' b->W4.heap[b]?=V.heap[b]?:=fun {b t'} hb=>hk4 b hb.lt (fun e=>HV.2.1.fresh.map.ne hb e.symm)
  exact⟨HV.1.keep fun t' b _ hb=>hT hb,⟨(hT (t':=395) ⟨_,HV.2.1.blk⟩).trans HV.2.1.blk,HV.2.1.vars.keep fun b e hl=>hk4 _ hl (fun e'=>HV.2.1.ne (e.trans (congrArg some e'))),⟨m4,fun y hy=>by cases hy⟩,HV.2.1.ne⟩,HV.2.2.keep (fun b hb=>hb.keep (hT hb)) fun b hb=>hT hb⟩)
 have HF4:Hid (Fr (fun k=>vb=some k\/fc iw u k) u W4):=ad (HFV.grown g4 fun g e=>.inr (by have:=Option.some.inj e;have:=HFP.out;omega))
 have hz4:=(hk4 _ (ap HZV.out).1 (fun e=>HV.2.1.fresh.map.ne (t:=27) ⟨_,HZV.out⟩ e.symm)).trans HZV.out
 obtain⟨z0,z1,z2,z3,-⟩:=aH hz4
 have hlz4:u.heap.size<W4.heap.size:=(ap hz4).1
 obtain⟨A4,c4,e4⟩:=H4.1.slice
 obtain⟨-,s1,-,-⟩:=H4.1.cells
 rw[e4]at s1
 have hls:=H4.1.lt
 clear hk4 m4 g4 hz4 e4 HV HFV HZV
 go_wp2_with fail
 refine(uN pb sb vb fb room t.size t W4 x need cv bv xs cs [] ys aC H4.2.2 H4.2.1 H4.1 (fun y hy=>by cases hy) HT.1 HT.2.1 HT.2.2.2).mono ?_
 rintro e W5 ⟨rfl,hpc5,⟨cv5,xs5,hs5,-⟩,hf5⟩
 obtain⟨pq,hpq⟩:∃pq,pq=aV t ⟨cs,[]⟩:=⟨_,rfl⟩
 rw[<-hpq]at hpc5 hs5⊢
 have HPQ:Hid (pq=aV t ⟨cs,[]⟩):=ad hpq
 have HMEM:Hid (cs.length<=pq.2.cs.length):=ad (by rw[hpq];exact(iJ t ⟨cs,[]⟩ (fun y hy=>by cases hy)).1.ge)
 have HF5:Hid (Fr (fun k=>vb=some k\/fc iw u k) u W5):=ad ⟨hf5.os.trans HF4.os,hf5.tape.trans HF4.tape,hf5.output.trans HF4.output,Nat.le_trans HF4.size hf5.size,fun k hk hn=>by
  have e1:=HF4.block k hk hn
  refine(hf5.block k (Nat.lt_of_lt_of_le hk HF4.size) fun e=>?_).trans e1
  rcases e with e|⟨h0,t',h1,cs9,e⟩
  ·have:=HFP.out;omega
  ·exact hn (.inr ⟨h0,t',h1,cs9,e1▸e⟩)⟩
 have H5:=ad (aD hs5 hpc5)
 clear hpq hpc5 hs5 hf5 p2 hlp z0 z1 z2 z3 hlz4 s1 hls HF4
 obtain⟨A5,c5,e5⟩:=H5.1.slice
 obtain⟨-,s1,-,-⟩:=H5.1.cells
 have hls:=H5.1.lt
 have hfew:=H5.1.few'
 rw[e5]at s1
 have HE5:=ad e5
 have hm5:=HMEM.out
 clear e5
 by_cases hcs:cs.length=0
 case' pos=>
  have hgt:¬((cs.length:Int)>0):=by omega
  have HTP:Hid (-1<=(-1:Int)/\(-1:Int)<=100000000):=ad ⟨by omega,by omega⟩
  clear hcs
 case' neg=>
  have hgt:(cs.length:Int)>0:=by omega
  obtain⟨c,hc⟩:∃c,pq.2.cs[cs.length-1]?=some c:=⟨_,au (by omega)⟩
  obtain⟨g,cap,x5,e6,-,hgl,hx5,ho5,-,-,-,-,-,-,d5⟩:=H5.1.at hc
  have e7:=HE5.symm.trans e6
  injection e7 with e7 e8 e9
  subst e7 e9
  clear e8
  obtain⟨tp,htp⟩:∃tp,tp=x5.top:=⟨_,rfl⟩
  have HTP:Hid (-1<=tp/\tp<=100000000):=ad (by rw[htp];exact ho5.top)
  rw[<-htp]at d5
  have hw1:IntKind.i64.wrap ((cs.length:Int)-1)=(cs.length:Int)-1:=IntWalk.i64_in _ (by omega)
  have hw2:(cs.length:Int)-1=((cs.length-1:Nat):Int):=by omega
  rw[hw2]at hw1
  have hn0:(0:Int)<=((cs.length-1:Nat):Int):=by omega
  have hn1:((cs.length-1:Nat):Int)<(pq.2.cs.length:Int):=by omega
  clear hcs hc e6 hx5 ho5 htp
 all_goals
  go_wp2_with fail
  clear s1 hgt
  go_loopw [12,13] (fun tv i wr=>∃(q:Nat) (tz:Int),tv=ae tz/\i=ae (q:Nat)/\q<=pq.2.cs.length/\Hid (-1<=tz/\tz<=100000000/\(∃xs',aL sb room wr cv5 bv xs' pq.2.cs ys)/\eC pb sb vb fb wr need (jD pq.2.fr)/\Fr (fun k=>vb=some k\/fc iw u k) u wr)) (fun _ i _=>pq.2.cs.length-(intOf i).toNat)
  case atStart=>exact⟨cs.length,_,rfl,rfl,HMEM.out,ad ⟨HTP.1,HTP.2,⟨_,H5.1⟩,H5.2,HF5.out⟩⟩
  case round=>
   obtain⟨q,tz,rfl,rfl,hq,HI⟩:=hrel
   clear HTP H5 HF5 HE5
   obtain⟨xs6,HS⟩:∃xs',Hid (aL sb room wr cv5 bv xs' pq.2.cs ys):=by
    obtain⟨xs',h⟩:=HI.2.2.1
    exact⟨xs',ad h⟩
   have hls:=HS.lt
   by_cases hlt:q<pq.2.cs.length
   ·obtain⟨c,hc⟩:∃c,pq.2.cs[q]?=some c:=⟨_,au hlt⟩
    obtain⟨g,cap,x6,e6,-,hgl,hx6,ho6,gf,-,-,-,d3,-,d5⟩:=HS.at hc
    subst e6
    obtain⟨-,s1,-,-⟩:=HS.cells
    have hlt1:(q:Int)<(pq.2.cs.length:Int):=by omega
    have hge:(0:Int)<=(q:Int):=by omega
    have hwq:IntKind.i64.wrap ((q:Int)+1)=(q:Int)+1:=IntWalk.i64_in _ (by omega)
    have HX6:=ad hx6
    have HAR:=ad (aD ho6.args (HS.args q c hc))
    have har:=HS.ar q c hc
    obtain⟨m,hm⟩:∃m,m=c.args.length:=⟨_,rfl⟩
    have HM:=ad hm
    rw[<-hm]at d3 har
    clear hx6 ho6 hc hm
    go_wp2_with fail
    obtain⟨wl,rfl⟩:∃wl:World,wl=wr:=⟨_,rfl⟩
    go_loopw [84,12] (fun i tv w9=>∃(j:Nat) (ty:Int),i=ae (j:Nat)/\tv=ae ty/\j<=m/\w9=wl/\Hid (-1<=ty/\ty<=100000000)) (fun i _ _=>m-(intOf i).toNat)
    case atStart=>exact⟨0,tz,rfl,rfl,Nat.zero_le _,rfl,ad ⟨HI.1,HI.2.1⟩⟩
    case round=>
     obtain⟨j,ty,rfl,rfl,hj,rfl,HY⟩:=hrel
     by_cases hjl:j<m
     ·obtain⟨a,ha⟩:∃a,c.args[j]?=some a:=⟨_,au (by rw[<-HM.out];exact hjl)⟩
      obtain⟨b,off,eA,hb,q9⟩:=HAR.1.at' j a ha
      rw[eA]at d3
      have hbl:=hb.lt
      have hj1:(j:Int)<(m:Int):=by omega
      have hj0:(0:Int)<=(j:Int):=by omega
      have hwj:IntKind.i64.wrap ((j:Int)+1)=(j:Int)+1:=IntWalk.i64_in _ (by omega)
      obtain⟨tw,htw⟩:∃z:Int,max ty (a:Int)=z:=⟨_,rfl⟩
      have HW:Hid (-1<=tw/\tw<=100000000):=ad (by have:=HY.out;have:=HAR.2 a (List.mem_of_getElem? ha);omega)
      rw[eA]
      clear ha hb eA
      go_wp2_with fail
      go_roundw
      case rel=>exact⟨j+1,tw,rfl,rfl,by omega,trivial,HW⟩
      case measure=>
       simp only[intOf]
       omega
     ·obtain rfl:j=m:=by omega
      have hng:¬(j:Int)<(j:Int):=by omega
      have HNX:Hid ((∃xs',aL sb room (wr.setCell (ak g (q*6+5)) (ae ty)) (al g pq.2.cs.length cap) bv xs' pq.2.cs ys)/\eC pb sb vb fb (wr.setCell (ak g (q*6+5)) (ae ty)) need (jD pq.2.fr)/\Fr (fun k=>vb=some k\/fc iw u k) u (wr.setCell (ak g (q*6+5)) (ae ty))):=ad (by
       have hgt:=HS.row.ty (g:=g) rfl
       have hgge:=HS.rowge (g:=g) rfl
       refine⟨⟨_,HS.top' HX6.out ty HY.out⟩,HI.2.2.2.1.setN hgt (by decide) _,HI.2.2.2.2.setCell (p:=(ak g (q*6+5))) ?_ _⟩
       by_cases hgu:u.heap.size<=g
       ·exact .inr hgu
       ·refine .inl (Classical.byContradiction fun hn=>?_)
        have h1:=HI.2.2.2.2.block g (by omega) hn
        obtain⟨cs9,h2⟩:=hgt
        exact hn (.inr ⟨hgge,378,by decide,cs9,h1▸h2⟩))
      clear hjl
      go_wp2_with fail
      go_roundw
      case rel=>exact⟨q+1,ty,rfl,rfl,by omega,ad ⟨HY.1,HY.2,HNX.1,HNX.2.1,HNX.2.2⟩⟩
      case measure=>
       simp only[intOf]
       omega
   ·obtain rfl:q=pq.2.cs.length:=by omega
    have hng:¬(pq.2.cs.length:Int)<(pq.2.cs.length:Int):=by omega
    obtain⟨A6,c6,e6⟩:=HS.slice
    obtain⟨-,s1,-,-⟩:=HS.cells
    rw[e6]at s1
    rcases vb with _|vb
    ·have hnil:(binOp .neq 116 (.map none) (.map none)).run prog wr=.ok (.bool false) wr:=by kernel_rfl
     have HQ:Hid (P (.returned (.tuple #[ae (pq.1:Nat),ae 0])) wr):=ad (by
      rw[HP.out]
      unfold s7
      rw[<-HPQ.out]
      exact⟨rfl,⟨_,_,HS.out⟩,fun b e=>(by cases e),HI.2.2.2.2⟩)
     clear hlt e6
     go_wp2_with fail
     exact HQ.out
    obtain⟨-,-,p2,-,-⟩:=aH HI.2.2.2.1.blk
    have hlp:=HI.2.2.2.1.lt
    obtain⟨w6,k6,r6,b6⟩:=HI.2.2.2.1.fresh.map.range (P:=prog) (t:=116) underlying116
    obtain⟨r,hr⟩:∃r,r=wr.heap.size:=⟨_,rfl⟩
    have HTL:Hid (lj vb fb r (jD pq.2.fr) [] (jD pq.2.fr) w6/\aL sb room w6 cv5 bv xs6 pq.2.cs ys/\Fr (fun k=>vb=some k\/fc iw u k) u w6):=ad ⟨⟨by rw[hr];exact r6,(HI.2.2.2.1.vars.at' vb rfl).later b6,by simp,fun e=>HI.2.2.2.1.ne (congrArg some e),by have:=(HI.2.2.2.1.vars.at' vb rfl).lt;omega⟩,HS.later b6,HI.2.2.2.2.step b6⟩
    have HND:Hid (((jD pq.2.fr).map (·.1)).Nodup/\∀y∈jD pq.2.fr,fP y.1):=ad ⟨HI.2.2.2.1.fresh.map.nodup,HI.2.2.2.1.fresh.ok⟩
    have HRU:Hid (u.heap.size<=r/\∀ {b t'},aR wr t' b->b≠vb):=ad ⟨by rw[hr];exact HI.2.2.2.2.size,fun hb e=>(HI.2.2.2.1.vars.at' vb rfl).map.ne hb e.symm⟩
    rw[<-hr]at k6
    have hnil:=map_some wr vb
    clear hlt e6 r6 b6 hr
    go_wp2_with fail
    clear k6 s1 p2 hlp hls hnil
    go_loopg [] (jD pq.2.fr).length (fun gk w9=>∃done left,Hid (lj vb fb r (jD pq.2.fr) done left w9/\aL sb room w9 cv5 bv xs6 pq.2.cs ys/\Fr (fun k=>vb=some k\/fc iw u k) u w9/\left.length=gk))
    case atStart=>exact⟨_,_,ad ⟨HTL.1,HTL.2.1,HTL.2.2,rfl⟩⟩
    case round=>
     obtain⟨done,left,HR⟩:=hrel
     clear HTL
     by_cases hl:left=[]
     ·subst hl
      have hov:=HR.1.it.over (P:=prog) (ty:=0)
      have HQ:Hid (P (.returned (.tuple #[ae (pq.1:Nat),ae 0])) wr):=ad (by
       rw[HP.out]
       unfold s7
       rw[<-HPQ.out]
       have hpm:∀n,aP done n=aP (jD pq.2.fr) n:=fun n=>wI (by have:=HR.1.perm;rwa[List.append_nil]at this) HR.1.vars.map.nodup n
       exact⟨rfl,⟨_,_,HR.2.1⟩,fun _ e=>⟨done,(Option.some.inj e)▸HR.1.vars,hpm⟩,HR.2.2.1⟩)
      go_wp2_with fail
      exact HQ.out
     ·obtain⟨j,y,wn,hnx,hjx,hitn,hgn,hszn,hent⟩:=HR.1.it.next (P:=prog) (ty:=0) hl
      obtain⟨w9,k9,t9,g9⟩:=HR.1.step HND.1 HND.2 hitn hgn hjx
      have HNX:Hid (lj vb fb r (jD pq.2.fr) (done++[y]) (left.eraseIdx j) w9/\aL sb room w9 cv5 bv xs6 pq.2.cs ys/\Fr (fun k=>vb=some k\/fc iw u k) u w9/\(left.eraseIdx j).length=gk-1/\gk-1<gk):=ad (by
       have hj:=(aq hjx).1
       have hlen:=HR.2.2.2
       refine⟨t9,?_,(HR.2.2.1.grown hgn fun g e=>.inr (by have:=Option.some.inj e;have:=HRU.1;omega)).grown g9 fun g e=>.inl (.inl e),by rw[List.length_eraseIdx,if_pos hj];omega,by omega⟩
       refine HR.2.1.keep fun t' b _ hb=>?_
       have h1:b≠r:=fun e=>by
        obtain⟨es,clock,seen,-,-,-,hr9,-⟩:=HR.1.it.it
        obtain⟨cs9,hb⟩:=hb
        rw[e,hr9]at hb
        cases hb
       have h2:b≠vb:=fun e=>HR.1.vars.map.ne hb e.symm
       rw[g9.block b (by have:=hb.lt;omega) (fun e=>h2 (Option.some.inj e)),hgn.block b hb.lt (fun e=>h1 (Option.some.inj e))])
      obtain⟨y1,y2⟩:=y
      simp only[sQ]at hnx hent
      simp only at k9
      clear hitn hgn hszn hjx t9 g9 hl
      go_wp2_with fail
      go_roundg (gk-1)
      case measure=>exact HNX.2.2.2.2
      case rel=>exact⟨_,_,ad ⟨HNX.1,HNX.2.1,HNX.2.2.1,HNX.2.2.2.1⟩⟩
theorem Al {vb:Nat} (hs:aL sb room u cv bv xs cs ys) (hv:M6 u vb []) (x:TV) (t:Tm) (hx:aI u (aR u 27) x t) (hm:t.may=true) (h6:∀n∈dP t,fP n) (hsz:t.size<=2000) (hr:cs.length+t.size<=room):
 Calls prog 196 #[ah sb,aU x,.map (some vb)] u (D7 sb vb room u bv cs ys t):=
 (yQ hs ⟨fun _ e=>(Option.some.inj e)▸hv⟩ x t hx hm h6 hsz hr).mono fun _ _ ⟨h1,h2,h3,h4⟩=>⟨h1,h2,h3 vb rfl,h4.mono fun _ _ h=>h.imp_left fun e=>(Option.some.inj e).symm⟩
end
end
end Go.Proofs.YtigeofkllldilaaGreatDoor
