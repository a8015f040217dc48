import Derived.Test.YtigeofkllldilaaGreatDoorJM16
set_option maxHeartbeats 32000000
set_option maxRecDepth 100000
set_option linter.unusedSectionVars false
open Go.Proofs.Tryz
namespace Go.Proofs.YtigeofkllldilaaGreatDoor
section
open Go.RowKit Go.Maps
def ku (u:World) (t:Tm) (e:Ending) (u':World):Prop:=
 ∃x:TV,e=.returned (aU x)/\aI u' (l4 u.heap.size u') x (fF t)/\aE u u'
def zD (n:Nat):Prop:=∀(t:Tm) (u:World) (x:TV),t.size<=n->t.size<=1000000000->aO u u.heap.size x t->Calls prog 15 #[aU x] u fun e u'=>ku u t e u'
theorem BQ (t:Tm):fF t=if 20<t.s.length then fG [97]else if t.k=1 then jk (max 0 t.n)else if t.k=2 then iv t.n else if t.k=3 then fG t.s else if t.k=4 then(if t.args.length=0 then fG [97]else jq t.s (cF t.args))else fG [97]:=by
 obtain⟨k,n,s,l⟩:=t
 rw[fF]
 rfl
theorem mJ:∀(l:List Tm) (t:Tm),cF (l++[t])=cF l++[fF t]
 |[],t=>by simp[cF]
 |a::r,t=>by rw[List.cons_append,cF,mJ r t,cF];rfl
theorem DE {w:World} {B:Nat} {x:TV} {t:Tm} (h:aO w B x t) {i:Nat} (hi:i<t.args.length):
 ∃b off y,x.A=some (ak b off)/\b<B/\aO w B y (t.args.getD i aQ)∧
  (w.cell? (ak b (off+i*4))=some (ae y.k)/\w.cell? (ak b (off+i*4+1))=some (ae y.n)/\w.cell? (ak b (off+i*4+2))=some (af y.s)/\w.cell? (ak b (off+i*4+3))=some (.slice y.A y.len y.cap)):=by
 obtain⟨k1,k2,k3,k4,k5,ka⟩:=h.open
 have e0:t.args[i]?=some (t.args.getD i aQ):=by rw[List.getD_eq_getElem?_getD,au hi];rfl
 obtain⟨y,b,off,hA,hb,ht,hc⟩:=ka i _ e0
 exact⟨b,off,y,hA,hb,ht,hc 0 _ rfl,hc 1 _ rfl,hc 2 _ rfl,hc 3 _ rfl⟩
theorem DF {t:Tm} {i:Nat} (h:i<t.args.length):(t.args.getD i aQ).size<t.size:=by
 have h1:=dD t.args (t.args.getD i aQ) (by rw[List.getD_eq_getElem?_getD,au h];exact List.getElem_mem h)
 have h2:=bE t
 omega
theorem jb:∀l:List Tm,l.length<=Tm.sizes l
 |[]=>aC
 |t::r=>by
  have h1:=jb r
  have h2:=bL t
  rw[Tm.sizes,List.length_cons]
  omega
theorem vS {t:Tm} {k:Nat} (h:k<t.args.length):t.args.take (k+1)=t.args.take k++[t.args.getD k aQ]:=by
 rw[List.take_succ_eq_append_getElem h,List.getD_eq_getElem?_getD,au h]
 rfl
theorem eP {u w:World} {br:Nat} {t:Tm} (k n:Int) (s:List UInt8) (hbr:u.heap.size<=br) (hb:aE u w) (hs:s.length<=maxLen) (ht:fF t=.mk k n s []):
 ku u t (.returned (aU ⟨k,n,s,none,0,0⟩)) ((((w.setCell (ak br 0) (ae k)).setCell (ak br 1) (ae n)).setCell (ak br 2) (af s)).setCell (ak br 3) aj):=
 ⟨_,rfl,by rw[ht];exact aI.leaf _ _ k n s none 0 hs,(((hb.setCell (p:=(ak br 0)) hbr _).setCell (p:=(ak br 1)) hbr _).setCell (p:=(ak br 2)) hbr _).setCell (p:=(ak br 3)) hbr _⟩
theorem xT {n:Nat} (hC:zD n):zD (n+1):=by
 intro t u x hn hsz hx
 obtain⟨R,hR⟩:∃R:Ending->World->Prop,R=fun e u'=>ku u t e u':=⟨_,rfl⟩
 rw[<-hR]
 have HRR:=ad hR
 obtain⟨k1,k2,k3,k4,k5,-⟩:=hx.open
 have hme:=BQ t
 rw[k1,k2,k3,k4]at hme
 obtain⟨W,hW⟩:∃W,W=((u.alloc (.cells #[ae x.k,ae x.n,af x.s,.slice x.A x.len x.cap] 27)).alloc (.cells #[ae 0,ae 0,ai,aj] 27)).alloc (.cells #[ae 3,ae 0,.string ⟨#[97]⟩,aj] 27):=⟨_,rfl⟩
 have hbW:aE u W:=by rw[hW];exact(aB.alloc (by simp) _).alloc (by simp;omega) _
 obtain⟨bx,hbx⟩:∃b,b=u.heap.size:=⟨_,rfl⟩
 obtain⟨br,hbr⟩:∃b,b=u.heap.size+1:=⟨_,rfl⟩
 obtain⟨ba,hba⟩:∃b,b=u.heap.size+1+1:=⟨_,rfl⟩
 have hx0:W.heap[bx]?=some (.cells #[ae x.k,ae x.n,af x.s,.slice x.A x.len x.cap] 27 (0,0)):=by
  rw[hW,hbx,aw _ _ _ (by simp;omega),aw _ _ _ (by simp)]
  exact az
 have hr0:W.heap[br]?=some (.cells #[ae 0,ae 0,ai,aj] 27 (0,0)):=by
  rw[hW,hbr,aw _ _ _ (by simp)]
  have:=heap_alloc_new (u.alloc (.cells #[ae x.k,ae x.n,af x.s,.slice x.A x.len x.cap] 27)) (.cells #[ae 0,ae 0,ai,aj] 27)
  rwa[World.size_alloc]at this
 have ha0:W.heap[ba]?=some (.cells #[ae 3,ae 0,.string ⟨#[97]⟩,aj] 27 (0,0)):=by
  rw[hW,hba]
  have:=heap_alloc_new ((u.alloc (.cells #[ae x.k,ae x.n,af x.s,.slice x.A x.len x.cap] 27)).alloc (.cells #[ae 0,ae 0,ai,aj] 27)) (.cells #[ae 3,ae 0,.string ⟨#[97]⟩,aj] 27)
  rwa[World.size_alloc,World.size_alloc]at this
 have hsW:W.heap.size=u.heap.size+3:=by rw[hW];simp
 obtain⟨f0,f1,f2,f3,-⟩:=aH hx0
 obtain⟨r0,r1,r2,r3,rf⟩:=aH hr0
 obtain⟨a0,a1,a2,a3,-⟩:=aH ha0
 have hsl:(⟨x.s.toArray⟩:ByteArray).size=x.s.length:=by simp[ByteArray.size]
 have HME:=ad hme
 have HC:=ad hC
 have HX:=ad hx
 have HBW:=ad hbW
 have HR0:=ad hr0
 have HX0:=ad hx0
 have HA0:=ad ha0
 have HB:=ad (aD hbx (aD hbr (aD hba hsW)))
 have HSZ:=ad (aD hn hsz)
 have HK:=ad (aD k1 (aD k2 (aD k3 (aD k4 k5))))
 have hlr:br<W.heap.size:=by omega
 clear hC hn hsz hx hR hme hbW hx0 hr0 ha0 k1 k2 k3 k4 k5 hsW
 rw[aN]
 by_cases hlen:20<x.s.length
 ·have g0:decide ((20:Int)<(x.s.length:Int))=true:=by simp;omega
  have g1:20<x.s.length:=hlen
  have HFIN:=ad (eP (u:=u) (w:=W) (br:=br) (t:=t) 3 0 [97] (by have:=HB.out;omega) HBW.out (by first|exact HK.2.2.2.2|decide) (by rw[HME.out];rw[if_pos hlen];rfl))
  have HC4:=ad (bc HR0.out rfl (ae 3) (ae 0) (af ([97]:List UInt8)) aj)
  clear hlen
  go_enter func15,ntmps15
  go_upto_region 2 with fail
  rw[<-hW,<-hba,<-hbr,<-hbx]
  clear hW hba hbr hbx
  go_wp2_with fail
  obtain⟨z0,z1,z2,z3,-⟩:=aH HC4.out
  refine⟨rfl,.agg #[ae 3,ae 0,af ([97]:List UInt8),aj],by simp[results,results15,go_sem,z0,z1,z2,z3],?_⟩
  rw[HRR.out]
  exact HFIN.out
 have g0:decide ((20:Int)<(x.s.length:Int))=false:=by simp;omega
 by_cases e1:x.k=1
 ·have b1:(x.k==1)=true:=by rw[e1];rfl
  by_cases hneg:0<x.n
  ·have hmx:max 0 x.n=x.n:=by omega
   have HFIN:=ad (eP (u:=u) (w:=W) (br:=br) (t:=t) 1 x.n [] (by have:=HB.out;omega) HBW.out (by first|exact HK.2.2.2.2|decide) (by rw[HME.out];rw[if_neg hlen,if_pos e1,hmx];rfl))
   have HC4:=ad (bc HR0.out rfl (ae 1) (ae x.n) (af ([]:List UInt8)) aj)
   clear e1
   go_enter func15,ntmps15
   go_upto_region 2 with fail
   rw[<-hW,<-hba,<-hbr,<-hbx]
   clear hW hba hbr hbx
   go_wp2_with fail
   obtain⟨z0,z1,z2,z3,-⟩:=aH HC4.out
   refine⟨rfl,.agg #[ae 1,ae x.n,af ([]:List UInt8),aj],by simp[results,results15,go_sem,z0,z1,z2,z3],?_⟩
   rw[HRR.out]
   exact HFIN.out
  ·have hmx:max 0 x.n=0:=by omega
   have HFIN:=ad (eP (u:=u) (w:=W) (br:=br) (t:=t) 1 0 [] (by have:=HB.out;omega) HBW.out (by first|exact HK.2.2.2.2|decide) (by rw[HME.out];rw[if_neg hlen,if_pos e1,hmx];rfl))
   have HC4:=ad (bc HR0.out rfl (ae 1) (ae 0) (af ([]:List UInt8)) aj)
   clear e1
   go_enter func15,ntmps15
   go_upto_region 2 with fail
   rw[<-hW,<-hba,<-hbr,<-hbx]
   clear hW hba hbr hbx
   go_wp2_with fail
   obtain⟨z0,z1,z2,z3,-⟩:=aH HC4.out
   refine⟨rfl,.agg #[ae 1,ae 0,af ([]:List UInt8),aj],by simp[results,results15,go_sem,z0,z1,z2,z3],?_⟩
   rw[HRR.out]
   exact HFIN.out
 have b1:(x.k==1)=false:=beq_eq_false_iff_ne.2 e1
 by_cases e2:x.k=2
 ·have b2:(x.k==2)=true:=by rw[e2];rfl
  have HFIN:=ad (eP (u:=u) (w:=W) (br:=br) (t:=t) 2 x.n [] (by have:=HB.out;omega) HBW.out (by first|exact HK.2.2.2.2|decide) (by rw[HME.out];rw[if_neg hlen,if_neg e1,if_pos e2];rfl))
  have HC4:=ad (bc HR0.out rfl (ae 2) (ae x.n) (af ([]:List UInt8)) aj)
  clear e1 e2
  go_enter func15,ntmps15
  go_upto_region 2 with fail
  rw[<-hW,<-hba,<-hbr,<-hbx]
  clear hW hba hbr hbx
  go_wp2_with fail
  obtain⟨z0,z1,z2,z3,-⟩:=aH HC4.out
  refine⟨rfl,.agg #[ae 2,ae x.n,af ([]:List UInt8),aj],by simp[results,results15,go_sem,z0,z1,z2,z3],?_⟩
  rw[HRR.out]
  exact HFIN.out
 have b2:(x.k==2)=false:=beq_eq_false_iff_ne.2 e2
 by_cases e3:x.k=3
 ·have b3:(x.k==3)=true:=by rw[e3];rfl
  have HFIN:=ad (eP (u:=u) (w:=W) (br:=br) (t:=t) 3 0 x.s (by have:=HB.out;omega) HBW.out (by first|exact HK.2.2.2.2|decide) (by rw[HME.out];rw[if_neg hlen,if_neg e1,if_neg e2,if_pos e3];rfl))
  have HC4:=ad (bc HR0.out rfl (ae 3) (ae 0) (af (x.s:List UInt8)) aj)
  clear e1 e2 e3
  go_enter func15,ntmps15
  go_upto_region 2 with fail
  rw[<-hW,<-hba,<-hbr,<-hbx]
  clear hW hba hbr hbx
  go_wp2_with fail
  obtain⟨z0,z1,z2,z3,-⟩:=aH HC4.out
  refine⟨rfl,.agg #[ae 3,ae 0,af (x.s:List UInt8),aj],by simp[results,results15,go_sem,z0,z1,z2,z3],?_⟩
  rw[HRR.out]
  exact HFIN.out
 have b3:(x.k==3)=false:=beq_eq_false_iff_ne.2 e3
 by_cases e4:x.k=4
 ·have b4:(x.k==4)=true:=by rw[e4];rfl
  by_cases hl0:x.len=0
  ·have b5:((x.len:Int)==0)=true:=by rw[hl0];rfl
   have HFIN:=ad (eP (u:=u) (w:=W) (br:=br) (t:=t) 3 0 [97] (by have:=HB.out;omega) HBW.out (by first|exact HK.2.2.2.2|decide) (by rw[HME.out];rw[if_neg hlen,if_neg e1,if_neg e2,if_neg e3,if_pos e4,if_pos hl0];rfl))
   have HC4:=ad (bc HR0.out rfl (ae 3) (ae 0) (af ([97]:List UInt8)) aj)
   clear e1 e2 e3 e4 hl0
   go_enter func15,ntmps15
   go_upto_region 2 with fail
   rw[<-hW,<-hba,<-hbr,<-hbx]
   clear hW hba hbr hbx
   go_wp2_with fail
   obtain⟨z0,z1,z2,z3,-⟩:=aH HC4.out
   refine⟨rfl,.agg #[ae 3,ae 0,af ([97]:List UInt8),aj],by simp[results,results15,go_sem,z0,z1,z2,z3],?_⟩
   rw[HRR.out]
   exact HFIN.out
  ·have b5:((x.len:Int)==0)=false:=beq_eq_false_iff_ne.2 (by omega)
   have HLN:Hid (t.args.length=x.len/\fF t=jq x.s (cF t.args)):=ad ⟨HK.2.2.2.1,by rw[HME.out,if_neg hlen,if_neg e1,if_neg e2,if_neg e3,if_pos e4,if_neg hl0]⟩
   obtain⟨B,hB⟩:∃B,B=W.heap.size+1:=⟨_,rfl⟩
   obtain⟨bt,hbt⟩:∃b,b=W.heap.size:=⟨_,rfl⟩
   obtain⟨V,hV⟩:∃V,V=W.alloc (.cells #[ae 4,ae 0,af x.s,aj] 27):=⟨_,rfl⟩
   have hbV:aE W V:=by rw[hV];exact aB
   have ht0:V.heap[bt]?=some (.cells #[ae 4,ae 0,af x.s,aj] 27 (0,0)):=by rw[hV,hbt];exact az
   have HST:=ad (dL.start (B:=B) (by omega) HK.2.2.2.2 ht0)
   have HBV:=ad (aD hbV (aD hB hbt))
   have HRV:=ad ((hbV.block br hlr).trans HR0.out)
   have hqx:bx<W.heap.size:=by have:=HB.out;omega
   have HXV:=ad ((hbV.block bx hqx).trans HX0.out)
   clear e1 e2 e3 e4 hl0 hlen hB hbV ht0
   go_enter func15,ntmps15
   go_upto_region 2 with fail
   rw[<-hW,<-hba,<-hbr,<-hbx]
   clear hW hba hbr hbx
   go_upto_region 15 with fail
   rw[<-hV,<-hbt]
   clear hV hbt f0 f1 f2 f3 r0 r1 r2 r3 rf a0 a1 a2 a3
   obtain⟨f0,f1,f2,f3,-⟩:=aH HXV.out
   go_wp2_with fail
   go_loopw [44] (fun i wr=>∃(k:Nat) (A1:Option Addr) (c1:Nat) (xs:List TV),k<=x.len/\i=ae k/\Hid (dL B bt 4 0 x.s (cF (t.args.take k)) A1 c1 xs wr/\aE u wr/\wr.heap[br]?=W.heap[br]?/\B<=wr.heap.size)) (fun i _=>x.len-(intOf i).toNat)
   case atStart=>exact⟨0,none,0,[],Nat.zero_le _,rfl,ad ⟨by simpa[cF]using HST.out,HBW.trans (HBV.1.mono HBW.size),HBV.1.block br hlr,by have:=HBV.out;have h5:=(ap HST.box).1;omega⟩⟩
   case round=>
    obtain⟨k,A1,c1,xs,hk,rfl,HI⟩:=hrel
    have HRR0:=ad (HI.2.2.1.trans HR0.out)
    clear f0 f1 f2 f3
    by_cases hkl:k<x.len
    case neg=>
     have hke:k=x.len:=by omega
     have b9:decide ((k:Int)<(x.len:Int))=false:=by simp;omega
     have HKE:=ad hke
     obtain⟨t0,t1,t2,t3,-⟩:=HI.1.cells
     obtain⟨r0,r1,r2,r3,rf⟩:=aH HRR0.out
     have htk:t.args.take k=t.args:=by rw[hke,<-HLN.1,List.take_length]
     have HTK:=ad htk
     have HFIN:Hid (ku u t (.returned (aU ⟨4,0,x.s,A1,(cF (t.args.take k)).length,c1⟩)) ((((wr.setCell (ak br 0) (ae 4)).setCell (ak br 1) (ae 0)).setCell (ak br 2) (af x.s)).setCell (ak br 3) (.slice A1 (cF (t.args.take k)).length c1))):=ad (by
      have hBB:=HB.out
      have hBV:=HBV.out
      refine⟨⟨4,0,x.s,A1,(cF (t.args.take k)).length,c1⟩,rfl,?_,?_⟩
      ·rw[HLN.2]
       have hd:=HI.1.done
       rw[htk]at hd⊢
       refine hd.keep (fun q hq=>⟨by have:=hq.1;omega,?_⟩) (fun q hq=>aM _ _ _ _ (by have:=hq.1;omega))
       exact hq.2.keep (aM _ _ _ _ (by have:=hq.1;omega))
      ·have h1:=HI.2.1
       exact(((h1.setCell (p:=(ak br 0)) (by simp only;omega) _).setCell (p:=(ak br 1)) (by simp only;omega) _).setCell (p:=(ak br 2)) (by simp only;omega) _).setCell (p:=(ak br 3)) (by simp only;omega) _)
     have HC4:=ad (bc HRR0.out rfl (ae 4) (ae 0) (af x.s) (.slice A1 (cF (t.args.take k)).length c1))
     clear hke htk
     go_wp2_with fail
     obtain⟨z0,z1,z2,z3,-⟩:=aH HC4.out
     refine⟨rfl,.agg #[ae 4,ae 0,af x.s,.slice A1 (cF (t.args.take k)).length c1],by simp[results,results15,go_sem,z0,z1,z2,z3],?_⟩
     rw[HRR.out]
     exact HFIN.out
    have b9:decide ((k:Int)<(x.len:Int))=true:=by simp;omega
    have hk0:(0:Int)<=(k:Int):=by omega
    have hk1:(k:Int)<(x.len:Int):=by omega
    have hka:k<t.args.length:=by rw[HLN.1];exact hkl
    obtain⟨b,off,y,hA,hbB,hy,m0,m1,m2,m3⟩:=DE (HX.blw HI.2.1) hka
    have hbw:b<wr.heap.size:=by have:=HI.2.1.size;omega
    obtain⟨V1,hV1⟩:∃V1,V1=wr.alloc (.cells #[ae y.k,ae y.n,af y.s,.slice y.A y.len y.cap] 27):=⟨_,rfl⟩
    obtain⟨b6,hb6⟩:∃b6,b6=wr.heap.size:=⟨_,rfl⟩
    have hbV1:aE wr V1:=by rw[hV1];exact aB
    have hy0:V1.heap[b6]?=some (.cells #[ae y.k,ae y.n,af y.s,.slice y.A y.len y.cap] 27 (0,0)):=by rw[hV1,hb6];exact az
    have HM:Hid (∀v,aE V1 v->Calls prog 15 #[.agg #[ae y.k,ae y.n,af y.s,.slice y.A y.len y.cap]] v fun e v'=>∃z:TV,e=.returned (.agg #[ae z.k,ae z.n,af z.s,.slice z.A z.len z.cap])/\aI v' (l4 V1.heap.size v') z (fF (t.args.getD k aQ))/\aE V1 v'):=ad fun v hv=>by
     have h1:=DF hka
     have h2:aO v v.heap.size y (t.args.getD k aQ):=((hy.up (by have:=HI.2.1.size;omega)).blw (B:=wr.heap.size) hbV1|>.blw (hv.mono hbV1.size)).up (by have:=hbV1.size;have:=hv.size;omega)
     have h3:=HSZ.out
     rw[<-aN]
     refine(HC.out _ v y (by omega) (by omega) h2).mono ?_
     rintro e v' ⟨z,rfl,h4,h5⟩
     exact⟨z,by rw[aN],h4.keep (fun q hq=>⟨Nat.le_trans hv.size hq.1,hq.2⟩) (fun _ _=>rfl),hv.trans (h5.mono hv.size)⟩
    have HCB:Hid (∀v,aE V1 v->dL B bt 4 0 x.s (cF (t.args.take k)) A1 c1 xs v):=ad fun v hv=>HI.1.later (hbV1.trans (hv.mono hbV1.size))
    have HBV1:=ad hbV1
    have HS1:Hid (∀v,aE V1 v->v.cell? (ak bt 3)=some (.slice A1 (cF (t.args.take k)).length c1)/\v.cell? (ak b6 0)=some (ae y.k)/\v.cell? (ak b6 1)=some (ae y.n)/\v.cell? (ak b6 2)=some (af y.s)/\v.cell? (ak b6 3)=some (.slice y.A y.len y.cap)):=ad fun v hv=>by
     obtain⟨-,-,-,h3,-⟩:=(HCB.out v hv).cells
     obtain⟨g0,g1,g2,g3,-⟩:=aH ((hv.block b6 (ap hy0).1).trans hy0)
     exact⟨h3,g0,g1,g2,g3⟩
    have hbr1:=Below.refl V1.heap.size V1
    have hbd1:aE V1 V1.drew:=(Below.refl V1.heap.size V1).drew
    have hL9:(cF (t.args.take k)).length=k:=by rw[lf,List.length_take];omega
    have hxl:=HI.1.len
    have HXL:=ad (aD hL9 hxl)
    have hxs9:xs.length<=1000000000:=by have:=HSZ.2;have:=bE t;have:=jb t.args;omega
    have HX9:=ad hxs9
    have HBB:=ad (aD HI.2.2.2 (aD hbV1.size HI.1.lt))
    obtain⟨i0,z0,hi0,hz0,hs0,hby0,hzc0⟩:=ft
    have hzs:z0.cells.size=4:=by rw[hzc0];rfl
    have HIN:=ad (aD hi0 (aD hz0 (aD hs0 (aD hby0 hzs))))
    have hw2:IntKind.i64.wrap ((k:Int)+1)=(k:Int)+1:=IntWalk.i64_in _ (by omega)
    rw[hA]at*
    clear hbV1 hy0 hL9 hxl hxs9 hi0 hz0 hs0 hby0 hzc0 hzs hA hbB hy hka
    go_upto_region 18 with fail
    rw[<-hV1,<-hb6]
    clear hV1 hb6 m0 m1 m2 m3 hbw
    obtain⟨t3,y0,y1,y2,y3⟩:=HS1.out V1 hbr1
    go_region_law (first|(go_simp;go_at_call 15;refine(HM.out _ (by assumption)).mono ?_;rintro e W1 ⟨z,rfl,hz,hb1⟩;obtain⟨t3',-⟩:=HS1.out W1 hb1;have hbt1:bt<W1.heap.size:=(ap (HCB.out W1 hb1).box).1;have HZ:=ad hz;have HB9:=ad hb1)|(refine step_append_lies _ (by rfl) _ _ _ (by rfl) B 27 i0 z0 4 56 underlying25 HIN.1 HIN.2.1 HIN.2.2.1 HIN.2.2.2.1 HIN.2.2.2.2 (by decide) (.slice A1 (cF (t.args.take k)).length c1) xs.length (xs.flatMap aJ) (by rfl) ((HCB.out W1 HB9.out).row.alloc _).own ⟨W1.heap.size,0,none⟩ 1 1 (aJ z) (by rfl) (by rfl) (fun j u hu=>by rw[show(⟨W1.heap.size,0,none⟩:Addr).add j=⟨W1.heap.size,j,none⟩by unfold Addr.add;split<;>simp_all];exact nS _ _ _ j u hu) (gy _) (by omega) (by have:=HX9.out;unfold maxLen;omega) (by have:=HX9.out;omega) (by have:=HBB.out;have:=HB9.size;simp;omega) (W1.heap.size+1) (by simp) ?_;intro g5 cap5 w5 hown5 hg5 hl5 _;obtain⟨v3,vf⟩:=sH (HCB.out W1 HB9.out).box (ap (HCB.out W1 HB9.out).box).1 (HCB.out W1 HB9.out).row.lt HBB.2.2 hg5;have HO5:=ad hown5;have HG5:=ad hg5;have HL5:=ad hl5;clear hown5 hg5 hl5))
    all_goals
     have HNX:Hid (dL B bt 4 0 x.s (cF (t.args.take (k+1))) (some (ak g5 0)) cap5 (xs++[z]) (w5.setCell (ak bt 3) (al g5 (xs.length+1) cap5))/\aE u (w5.setCell (ak bt 3) (al g5 (xs.length+1) cap5))/\(w5.setCell (ak bt 3) (al g5 (xs.length+1) cap5)).heap[br]?=W.heap[br]?/\B<=(w5.setCell (ak bt 3) (al g5 (xs.length+1) cap5)).heap.size):=ad (by
      have hBB:=HB.out
      have hBV:=HBV.out
      have hB1:=HBB.out
      have hb9:=HB9.out
      have hwb:aE wr W1:=HBV1.trans (hb9.mono HBV1.size)
      have hW1:=HCB.out W1 hb9
      have hbA:aE W1 (W1.alloc (.cells #[ae z.k,ae z.n,af z.s,.slice z.A z.len z.cap] 27)):=aB
      have hR5:aS w5 B 27 4 aJ (al g5 (xs.length+1) cap5) (xs++[z]):=⟨by rw[List.flatMap_append,List.length_append];simpa using HO5.out⟩
      have hown:∀q,(Value.slice A1 (cF (t.args.take k)).length c1).ownBlock=some q->B<=q/\q<W1.heap.size:=hW1.row.lt
      have hkeep:∀q,q<W1.heap.size->q<B->w5.heap[q]?=W1.heap[q]?:=fun q h1 h2=>by
       rw[HG5.block q (by simp;omega) (fun e=>by have:=(hown q e.symm).1;omega)]
       exact aw _ _ _ h1
      have hg5:W1.heap.size<=w5.heap.size:=by have:=HG5.size;simp at this;omega
      refine⟨?_,?_,?_,?_⟩
      ·rw[vS (by rw[HLN.1];exact hkl),mJ]
       have hx1:=HXL.2
       rw[hx1]at hR5⊢
       refine dL.push HI.1 (hwb.trans (hbA.mono hwb.size)) (HZ.keep (fun q hq=>⟨by have:=hq.1;omega,hq.2.keep (aw _ _ _ hq.2.lt)⟩) (fun q hq=>aw _ _ _ hq.2.lt)) hB1.1 hR5 HG5.out ?_
       rcases HL5.out with h|h
       ·exact .inl h
       ·exact .inr (by rw[h];simp)
      ·have h1:aE u W1:=HI.2.1.trans (hwb.mono HI.2.1.size)
       have h2:aE u (W1.alloc (.cells #[ae z.k,ae z.n,af z.s,.slice z.A z.len z.cap] 27)):=h1.trans (hbA.mono h1.size)
       have h3:aE u w5:=h2.grown HG5.out h2.size fun q hq=>by have:=(hown q hq).1;omega
       exact h3.setCell (p:=(ak bt 3)) (by simp only;omega) _
      ·have h1:br<wr.heap.size:=(ap HRR0.out).1
       rw[av _ _ _ _ (by simp only;omega),hkeep br (by have:=hwb.size;omega) (by omega),hwb.block br h1]
       exact HI.2.2.1
      ·rw[World.size_setCell]
       have:=hwb.size
       omega)
     clear t3 t3' y0 y1 y2 y3 v3 vf hbr1 hbd1
     go_wp2_with fail
     go_roundw
     case rel=>exact⟨k+1,_,_,_,by omega,rfl,HNX⟩
     all_goals (simp[intOf];omega)
 have b4:(x.k==4)=false:=beq_eq_false_iff_ne.2 e4
 have HFIN:=ad (eP (u:=u) (w:=W) (br:=br) (t:=t) 3 0 [97] (by have:=HB.out;omega) HBW.out (by first|exact HK.2.2.2.2|decide) (by rw[HME.out];rw[if_neg hlen,if_neg e1,if_neg e2,if_neg e3,if_neg e4];rfl))
 have HC4:=ad (bc HR0.out rfl (ae 3) (ae 0) (af ([97]:List UInt8)) aj)
 clear e1 e2 e3 e4
 go_enter func15,ntmps15
 go_upto_region 2 with fail
 rw[<-hW,<-hba,<-hbr,<-hbx]
 clear hW hba hbr hbx
 go_wp2_with fail
 obtain⟨z0,z1,z2,z3,-⟩:=aH HC4.out
 refine⟨rfl,.agg #[ae 3,ae 0,af ([97]:List UInt8),aj],by simp[results,results15,go_sem,z0,z1,z2,z3],?_⟩
 rw[HRR.out]
 exact HFIN.out
theorem sa:∀n,zD n
 |0=>fun t _ _ h _ _=>by have:=bL t;omega
 |n+1=>xT (sa n)
end
end Go.Proofs.YtigeofkllldilaaGreatDoor
