import Derived.Test.YtigeofkllldilaaGreatDoorJM11
import Derived.Deep.CutRange
import Derived.Deep.DrawnRows
set_option maxHeartbeats 32000000
set_option maxRecDepth 100000
set_option linter.unusedSectionVars false
open Go.Proofs.Tryz
namespace Go.Proofs.YtigeofkllldilaaGreatDoor
section
open Go.RowKit Go.Maps
attribute [local go_sem ↓] Go.wp_at_zero Go.wp_at_succ
section
variable {w u:World} {S:Nat->Prop} {B db mb pb bx bz:Nat} {time:Int} {es:List (PK×Nat)} {cv:Value} {cls:List im} {kind ver:Int} {ov:Value} {ord:List Int} {x y:TV}
theorem be.cl_term {w9:World} (h:be w S B db mb pb bx bz time es cv cls kind ver ov ord x y u) (hg:u.grownBy w9 cv.ownBlock) (v:Value) (k:Nat) (cs:Array Value) (hk:u.heap[k]?=some (.cells cs 27 (0,0))):
 (w9.setCell (ak db 2) v).heap[k]?=u.heap[k]?:=by
 rw[Deep.blk_setCell_other _ _ _ _ (aX hk h.db'.blk (by decide))]
 exact hg.block k (ap hk).1 (fun e=>by
  obtain⟨_,cur,hc⟩:=h.cl.block e.symm
  exact aX hk hc (by decide) rfl)
theorem be.od_term {w9:World} (h:be w S B db mb pb bx bz time es cv cls kind ver ov ord x y u) (hF:Fr (fun k=>ov.ownBlock=some k) u w9) (v:Value) (k:Nat) (cs:Array Value) (hk:u.heap[k]?=some (.cells cs 27 (0,0))):
 (w9.setCell (ak pb 2) v).heap[k]?=u.heap[k]?:=by
 rw[Deep.blk_setCell_other _ _ _ _ (show k≠pb from aX hk (show u.heap[pb]?=some (.cells _ 180 (0,0))from h.pr) (by decide))]
 exact hF.block k (ap hk).1 (fun e=>by
  obtain⟨_,cur,hc⟩:=h.od.block e
  exact aX hk hc (by decide) rfl)
end
def gh (kind:Int) (dyn:Bool):Int:=if kind=0 then(if dyn=true then 2 else 1)else kind
def uZ (w:World) (S:Nat->Prop) (B db mb:Nat) (time:Int) (esf:Nat->List (PK×Nat)) (P:Nat->Prop) (cls:List im) (kind:Int) (ord:List Int) (x y:TV) (ax ay:Option (Int×Int×List UInt8)) (front dyn:Bool) (e:Ending) (w':World):Prop:=
 ∃pb bx bz x' y' cv' ov',e=.returned (.tuple #[ae cls.length,ae 0])/\P pb∧
   be w S B db mb pb bx bz (time+1) (esf pb) cv' (cls++[⟨x',y',time+1,-1⟩]) (gh kind dyn) (time+1) ov' (if front=true then(cls.length:Int)::ord else ord++[(cls.length:Int)]) x' y' w'∧
   dH w.heap.size w' x x' ax/\dH w.heap.size w' y y' ay
theorem oQ (w:World) (S:Nat->Prop) (B db mb:Nat) (time:Int) (es:List (PK×Nat)) (A:Option Addr) (N c:Nat) (cls:List im) (kind ver:Int) (ov:Value) (ord:List Int) (hD:eO w db mb time es (.slice A N c)) (hcl:aS w B 184 10 fa (.slice A N c) cls)
 (hod:aS w B 3 1 eB ov ord) (hB:B<=w.heap.size) (x y:TV) (ax ay:Option (Int×Int×List UInt8)) (hx:cX w x ax) (hy:cX w y ay) (hcx:dG (iu x ax)=0) (hcy:dG (iu y ay)=0) (hk:x.k=3\/x.k=4) (hSx:∀u,Fr S w u->cX u x ax) (hSy:∀u,Fr S w u->cX u y ay)
 (hN:cls.length<4096) (ho:ord.length<=10000) (ht:0<=time/\time<=100000) (front dyn:Bool) (hdb:S db) (hmb:S mb) (hscv:∀g,(Value.slice A N c).ownBlock=some g->S g) (hsov:∀g,ov.ownBlock=some g->S g)
 (P:Nat->Prop) (esf:Nat->List (PK×Nat)) (hP:∀pb,P pb->S pb\/w.heap.size<=pb)
 (hget:∀u,aE w u->Calls prog 75 #[ah db,af x.s,ae x.len] u fun e u'=>∃pb,e=.returned (ah pb)/\P pb/\eO u' db mb time (esf pb) (.slice A N c)/\gd u' pb kind ver ov 0/\Fr (·=mb) u u'):
 Calls prog 36 #[ah db,aU x,aU y,.bool front,.bool dyn] w (uZ w S B db mb time esf P cls kind ord x y ax ay front dyn):=by
 have hNl:N=cls.length:=by
  obtain⟨A',c',e1⟩:=hcl.shape
  injection e1
 obtain⟨W0,hW0⟩:∃W0,eH w [.cells (aJ x).toArray 27,.cells (aJ y).toArray 27]=W0:=⟨_,rfl⟩
 have hb0:aE w W0:=by rw[<-hW0];exact dW _ _
 have h0:W0.heap[w.heap.size]?=some (.cells (aJ x).toArray 27 (0,0)):=by rw[<-hW0];exact cg w _ 0 _ rfl
 have h1:W0.heap[w.heap.size+1]?=some (.cells (aJ y).toArray 27 (0,0)):=by rw[<-hW0];exact cg w _ 1 _ rfl
 have HMAY:=ad (zR W0 db mb time es A N c (hD.later hb0) (by omega) x y ax ay (hx.later hb0) (hy.later hb0) hcx hcy hk)
 have HF:=ad (kD h0 h1)
 have HH0:=ad (aD h0 h1)
 have HX:=ad hSx
 have HY:=ad hSy
 have HCL:=ad (hcl.later hb0)
 have HOD:=ad (hod.later hb0)
 have HD:=ad (hD.later hb0)
 have HB0:=ad hb0
 have HW0:=ad hW0
 have HGET:=ad hget
 have HP:=ad hP
 have HS:=ad (aD hdb (aD hmb (aD hscv hsov)))
 obtain⟨ht0,ht1⟩:=ht
 clear hSx hSy hD hcl hod hx hy hcx hcy hk hdb hmb hscv hsov hP hget hb0 h0 h1 hW0
 rw[aN,aN]
 go_enter func36,ntmps36
 obtain⟨b0,b1,b2,b3,b4,b5,b6,b7⟩:=HF.out
 go_wp2_with fail
 change Calls _ _ _ (eH w [.cells (aJ x).toArray 27,.cells (aJ y).toArray 27]) _
 rw[HW0.out]
 clear HW0
 refine HMAY.mono ?_
 rintro e u1 ⟨rfl,hb1⟩
 have HB1:=ad hb1
 obtain⟨b0,b1,b2,b3,b4,b5,b6,b7⟩:=bQ HF.out hb1
 clear hb1
 go_wp2_with fail
 refine(HGET.out _ (HB0.trans (HB1.mono HB0.size))).mono ?_
 rintro e u2 ⟨pb,rfl,hPp,hD2,hp2,hF2⟩
 have hm1:=(HD.later HB1.out).map
 have hI2:be w S B db mb pb w.heap.size (w.heap.size+1) time (esf pb) (.slice A N c) cls kind ver ov ord x y u2:=by
  obtain⟨s1,s2,s3,s4⟩:=HS.out
  have hx1:=(HB1.block _ (ap HH0.1).1).trans HH0.1
  have hz1:=(HB1.block _ (ap HH0.2).1).trans HH0.2
  have hc1:=HCL.later HB1.out
  have ho1:=HOD.later HB1.out
  refine⟨hD2,hp2,hc1.keep fun g hg=>hF2.block g (hc1.lt g hg).2 ?_,ho1.keep fun g hg=>hF2.block g (ho1.lt g hg).2 ?_,(hF2.block _ (ap hx1).1 (eS hx1 hm1)).trans hx1,(hF2.block _ (ap hz1).1 (eS hz1 hm1)).trans hz1,by omega,
   (Fr.of_below S (HB0.trans (HB1.mono HB0.size))).trans (hF2.weak fun k hk=>by rw[hk];exact s2),fun g hg=>.inl (s3 g hg),fun g hg=>.inl (s4 g hg),s1,s2,HP.out pb hPp,aC,by omega⟩
  ·obtain⟨_,cur,hc⟩:=hc1.block hg
   exact eS hc hm1
  ·obtain⟨_,cur,hc⟩:=ho1.block hg
   exact eS hc hm1
 have HI2:=ad hI2
 have HPP:=ad hPp
 obtain⟨p0,p1,p2,p3,pf⟩:=hI2.pr.cells
 have hpl:=hI2.pr.lt
 have hw2:=hI2.fr.size
 clear hI2 hD2 hp2 hF2 hm1 hPp b0 b1 b2 b3 b4 b5 b6 b7 HD HF HH0 HCL HOD HGET HP HS HMAY
 go_upto_if 35 with fail
 go_cut []from 36 (fun u=>Hid (be w S B db mb pb w.heap.size (w.heap.size+1) time (esf pb) (.slice A N c) cls (gh kind dyn) ver ov ord x y u))
 case first=>
  by_cases hk0:kind=0
  ·subst hk0
   cases dyn
   ·go_wp2_with fail
    go_meet
    exact ad (HI2.setPr 0 (ae 1) rfl)
   ·go_wp2_with fail
    go_meet
    exact ad ((HI2.setPr 0 (ae 1) (kind':=1) (ver':=ver) rfl).setPr 0 (ae 2) rfl)
  ·have hkb:(kind==0)=false:=by simpa using hk0
   have HK0:=ad hk0
   clear hk0
   go_wp2_with fail
   go_meet
   unfold gh
   rw[if_neg HK0.out]
   exact HI2
 case rest=>
  obtain⟨u3,rfl⟩:∃u3:World,u3=wc:=⟨_,rfl⟩
  have HI3:=hcut
  clear hcut HI2 p0 p1 p2 p3 pf
  obtain⟨p0,p1,p2,p3,pf⟩:=HI3.pr.cells
  obtain⟨c0,c1,c2,cf⟩:=HI3.db'.cells
  obtain⟨b0,b1,b2,b3,b4,b5,b6,b7⟩:=HI3.flat
  have hdp:=HI3.dp
  have hxd:w.heap.size≠db:=aX HI3.hx HI3.db'.blk (by decide)
  have hzd:w.heap.size+1≠db:=aX HI3.hz HI3.db'.blk (by decide)
  have hxp:w.heap.size≠pb:=aX HI3.hx (show u3.heap[pb]?=some (.cells _ 180 (0,0))from HI3.pr) (by decide)
  have hzp:w.heap.size+1≠pb:=aX HI3.hz (show u3.heap[pb]?=some (.cells _ 180 (0,0))from HI3.pr) (by decide)
  have HI4:=ad ((HI3.setDb (time+1)).setPr 1 (ae (time+1)) (kind':=gh kind dyn) (ver':=time+1) rfl)
  have HS3:=HI3.fr.size
  have HNUM:=ad (tE _ x y ax ay (HX.out _ HI4.fr) (HY.out _ HI4.fr))
  rw[aN,aN]at HNUM
  go_wp2_with fail
  refine HNUM.mono ?_
  rintro e u6 ⟨x',y',rfl,hcx,hcy,hb6⟩
  rw[aN,aN]
  have HI6:=ad (HI4.later hb6)
  have HCX:=ad hcx
  have HCY:=ad hcy
  clear p0 p1 p2 p3 pf c0 c1 c2 cf b0 b1 b2 b3 b4 b5 b6 b7 hcx hcy hb6 HNUM
  obtain⟨b0,b1,b2,b3,bf⟩:=ci HI6.hx
  obtain⟨b4,b5,b6,b7,bf'⟩:=ci HI6.hz
  obtain⟨u7,hu7⟩:∃u7,u7=((((((((u6.setCell (ak w.heap.size 0) (ae x'.k)).setCell (ak w.heap.size 1) (ae x'.n)).setCell (ak w.heap.size 2) (af x'.s)).setCell (ak w.heap.size 3) (.slice x'.A x'.len x'.cap)).setCell (ak (w.heap.size+1) 0) (ae y'.k)).setCell (ak (w.heap.size+1) 1) (ae y'.n)).setCell (ak (w.heap.size+1) 2) (af y'.s)).setCell (ak (w.heap.size+1) 3) (.slice y'.A y'.len y'.cap)):=⟨_,rfl⟩
  have HI7:Hid (be w S B db mb pb w.heap.size (w.heap.size+1) (time+1) (esf pb) (.slice A N c) cls (gh kind dyn) (time+1) ov ord x' y' u7):=by rw[hu7];exact ad ((HI6.setX x').setY y')
  have hzz:w.heap.size+1<u6.heap.size:=(ap HI6.hz).1
  have HU:Hid (∀k:Nat,(u3.setCell (ak db 0) (ae (time+1))).heap.size<=k->u7.heap[k]?=u6.heap[k]?):=by
   have hs3:w.heap.size+1<u3.heap.size:=(ap HI3.hz).1
   refine ad fun k hk=>?_
   have hk':u3.heap.size<=k:=by simpa[World.setCell]using hk
   rw[hu7]
   rw[Deep.blk_setCell_other _ _ _ _ (show k≠w.heap.size+1 by omega),Deep.blk_setCell_other _ _ _ _ (show k≠w.heap.size+1 by omega),Deep.blk_setCell_other _ _ _ _ (show k≠w.heap.size+1 by omega),Deep.blk_setCell_other _ _ _ _ (show k≠w.heap.size+1 by omega),
    Deep.blk_setCell_other _ _ _ _ (show k≠w.heap.size by omega),Deep.blk_setCell_other _ _ _ _ (show k≠w.heap.size by omega),Deep.blk_setCell_other _ _ _ _ (show k≠w.heap.size by omega),Deep.blk_setCell_other _ _ _ _ (show k≠w.heap.size by omega)]
  go_wp2_with fail
  rw[<-hu7]
  clear b0 b1 b2 b3 b4 b5 b6 b7 bf bf' hu7 hzz HI4 HI3 HB0 HB1
  obtain⟨c0,c1,c2,cf⟩:=HI7.db'.cells
  obtain⟨b0,b1,b2,b3,b4,b5,b6,b7⟩:=HI7.flat
  have hdl:db<u7.heap.size:=HI7.db'.lt
  have hxl:w.heap.size<u7.heap.size:=(ap HI7.hx).1
  have hzl:w.heap.size+1<u7.heap.size:=(ap HI7.hz).1
  have hwl:w.heap.size<=u7.heap.size:=by omega
  obtain⟨i0,z0,hi0,hz0,hz1,hz2,hz3⟩:=Cy
  have hbb:aE u7 ((u7.alloc (.cells (fa ⟨x',y',time+1,-1⟩).toArray 184)).drew):=aB.drew
  obtain⟨g9,cap9,w9,hr9,hR9,hg9,ho9⟩:=aS.push (P:=prog) 165 underlying165 hi0 hz0 hz1 hz2 hz3 (by decide) oL wX
   (w:=(u7.alloc (.cells (fa ⟨x',y',time+1,-1⟩).toArray 184)).drew) (HI7.later hbb).cl ⟨x',y',time+1,-1⟩ u7.heap.size 1
   (fun j u hu=>bV u7 _ _ j u (by simpa using hu)) (by unfold maxLen;omega) (by omega) (by simp;omega)
  have hcl9:=(HI7.later hbb).setCl hR9 hg9 (by
   rcases ho9 with h|h
   ·exact .inl (by rw[h];rfl)
   ·exact .inr ⟨g9,rfl,by rw[h];exact aC⟩)
  obtain⟨⟨q2,qf⟩,hI9⟩:=hcl9
  have hT9:=fun k cs hk=>(HI7.later hbb).cl_term hg9 (al g9 (cls.length+1) cap9) k cs hk
  have hr9:(Builtin.append_ #[165,165] 165 #[.slice A N c,al u7.heap.size 1 1]).run prog (u7.alloc (.cells #[ae x'.k,ae x'.n,af x'.s,.slice x'.A x'.len x'.cap,ae y'.k,ae y'.n,af y'.s,.slice y'.A y'.len y'.cap,ae (time+1),ae (-1)] 184)).drew=.ok (al g9 (cls.length+1) cap9) w9:=hr9
  have HI9:=ad hI9
  have HT9:=ad hT9
  have hK4:w9.cell? (ak db 0)=some (ae (time+1))/\l7 w.heap.size (w.heap.size+1) x' y' w9:=by
   obtain⟨d0,_,_,_⟩:=hI9.db'.cells
   have hxd9:w.heap.size≠db:=hxd
   have hfl:=hI9.flat
   have e1:=Deep.blk_setCell_other w9 ⟨db,2,none⟩ (al g9 (cls.length+1) cap9) w.heap.size hxd
   have e2:=Deep.blk_setCell_other w9 ⟨db,2,none⟩ (al g9 (cls.length+1) cap9) (w.heap.size+1) hzd
   refine⟨?_,kD (e1▸hI9.hx) (e2▸hI9.hz)⟩
   rw[World.cell?_setCell_other _ _ _ _ (by simp)]at d0
   exact d0
  have HK4:=ad hK4
  have HK5:Hid ((w9.setCell (ak db 2) (al g9 (cls.length+1) cap9)).cell? (ak db 0)=some (ae (time+1))/\l7 w.heap.size (w.heap.size+1) x' y' (w9.setCell (ak db 2) (al g9 (cls.length+1) cap9))):=ad ⟨hI9.db'.cells.1,hI9.flat⟩
  have HK2:Hid ((u7.alloc (.cells #[ae x'.k,ae x'.n,af x'.s,.slice x'.A x'.len x'.cap,ae y'.k,ae y'.n,af y'.s,.slice y'.A y'.len y'.cap,ae (time+1),ae (-1)] 184)).drew.cell? (ak db 0)=some (ae (time+1))/\l7 w.heap.size (w.heap.size+1) x' y' (u7.alloc (.cells #[ae x'.k,ae x'.n,af x'.s,.slice x'.A x'.len x'.cap,ae y'.k,ae y'.n,af y'.s,.slice y'.A y'.len y'.cap,ae (time+1),ae (-1)] 184)).drew):=ad ⟨(HI7.later hbb).db'.cells.1,(HI7.later hbb).flat⟩
  have HK1:Hid (u7.drew.cell? (ak db 0)=some (ae (time+1))/\l7 w.heap.size (w.heap.size+1) x' y' u7.drew):=ad ⟨c0,HI7.flat⟩
  clear hI9 hT9 hR9 hg9 ho9 hbb hNl hK4
  go_cut []from 68 (fun u=>u=w9.setCell (ak db 2) (al g9 (cls.length+1) cap9))
  case first=>
   clear HK1 HK2 HK4 HK5 HI6 HI7 HCX HCY HU HX HY HPP
   go_region_law (first|(refine ks rfl (.tmp 72) (.tmp 80) 165 rfl (by rfl) (by rfl) hr9 ?_))
   all_goals
    go_wp2_with fail
    go_meet
    rfl
  case rest=>
   obtain⟨u10,rfl⟩:∃u10:World,u10=wc:=⟨_,rfl⟩
   obtain⟨A2,c2',rfl⟩:=HI7.od.shape
   have HI10:Hid (be w S B db mb pb w.heap.size (w.heap.size+1) (time+1) (esf pb) (al g9 (cls.length+1) cap9) (cls++[⟨x',y',time+1,-1⟩]) (gh kind dyn) (time+1) (.slice A2 ord.length c2') ord x' y' u10):=by
    rw[hcut];exact HI9
   have HT10:Hid (∀(k:Nat) cs,(u7.alloc (.cells (fa ⟨x',y',time+1,-1⟩).toArray 184)).drew.heap[k]?=some (Obj.cells cs 27 (0,0))->u10.heap[k]?=(u7.alloc (.cells (fa ⟨x',y',time+1,-1⟩).toArray 184)).drew.heap[k]?):=by
    rw[hcut];exact HT9
   clear hcut HI9 HT9 HK1 HK2 HK4 HK5 c0 c1 c2 cf b0 b1 b2 b3 b4 b5 b6 b7 hi0 hz0 hz1 hz2 hz3 q2 qf hr9
   obtain⟨i1,z1,hi1,hz4,hz5,hz6,hz7⟩:=nC
   have hbi:aE u10 ((u10.alloc (.cells #[ae (cls.length:Int)] 3)).drew):=aB.drew
   have hBu:B<=u10.heap.size:=by have:=HI10.fr.size;omega
   have HC10:Hid (dH w.heap.size u10 x x' ax/\dH w.heap.size u10 y y' ay):=by
    have hk:∀(k:Nat) cs,u6.heap[k]?=some (Obj.cells cs 27 (0,0))->((u3.setCell (ak db 0) (ae (time+1))).setCell (ak pb 1) (ae (time+1))).heap.size<=k->u10.heap[k]?=u6.heap[k]?:=fun k cs hk hle=>by
     have e1:=HU.out k (by simpa[World.setCell]using hle)
     have e2:(u7.alloc (.cells (fa ⟨x',y',time+1,-1⟩).toArray 184)).drew.heap[k]?=u7.heap[k]?:=(aB.drew:aE u7 _).block k ((ap (e1.trans hk)).1)
     rw[HT10.out k cs (e2.trans (e1.trans hk)),e2,e1]
    exact ad ⟨HCX.keep (by simpa[World.setCell]using HS3) hk,HCY.keep (by simpa[World.setCell]using HS3) hk⟩
   have HPr:Hid (∀ov' w9,be w S B db mb pb w.heap.size (w.heap.size+1) (time+1) (esf pb) (al g9 (cls.length+1) cap9) (cls++[⟨x',y',time+1,-1⟩]) (gh kind dyn) (time+1) ov' (if front=true then(cls.length:Int)::ord else ord++[(cls.length:Int)]) x' y' w9->(∀(k:Nat) cs,u10.heap[k]?=some (Obj.cells cs 27 (0,0))->w9.heap[k]?=u10.heap[k]?)→
    uZ w S B db mb time esf P cls kind ord x y ax ay front dyn (Ending.returned (.tuple #[ae cls.length,ae 0])) w9):=
    ad fun ov' w9 h k=>⟨pb,_,_,x',y',_,ov',rfl,HPP.out,h,HC10.1.keep aC (fun j cs hj _=>k j cs hj),HC10.2.keep aC (fun j cs hj _=>k j cs hj)⟩
   cases front
   ·obtain⟨gi,capi,w11,hr11,hR11,hg11,ho11⟩:=aS.push (P:=prog) 178 underlying178 hi1 hz4 hz5 hz6 hz7 (by decide) iK kC
     (w:=(u10.alloc (.cells #[ae (cls.length:Int)] 3))) (HI10.later aB).od (cls.length:Int) u10.heap.size 1
     (fun j u hu=>bV u10 _ _ j u (by simpa[eB]using hu)) (by unfold maxLen;omega) (by omega) (by simp;omega)
    have hI11:=(HI10.later (aA.alloc aC (.cells #[ae (cls.length:Int)] 3))).setOd hR11 (Fr.grown (Fr.refl _ _) hg11 (fun g hg=>.inl hg)) (by
     rcases ho11 with h|h
     ·exact .inl (by rw[h];rfl)
     ·exact .inr ⟨gi,rfl,by rw[h];exact aC⟩)
    have HK:Hid (∀(k:Nat) cs,u10.heap[k]?=some (Obj.cells cs 27 (0,0))->(w11.setCell (ak pb 2) (al gi (ord.length+1) capi)).heap[k]?=u10.heap[k]?):=ad fun k cs hk=>by
     have hk1:=(aA.alloc aC (.cells #[ae (cls.length:Int)] 3):aE u10 _).block k (ap hk).1
     rw[<-hk1]
     exact(HI10.later (aA.alloc aC (.cells #[ae (cls.length:Int)] 3))).od_term (Fr.grown (Fr.refl _ _) hg11 (fun g hg=>.inl hg)) _ k cs (hk1.trans hk)
    obtain⟨⟨q2,qf⟩,hI12⟩:=hI11
    have HI12:=ad hI12
    clear hI12 hR11 hg11 ho11 hbi
    obtain⟨p0,p1,p2,p3,pf⟩:=HI10.pr.cells
    have hpl10:=HI10.pr.lt
    go_wp2_with (refine um (by rfl) (.tmp 103) (.tmp 105) 178 (by rfl) (by rfl) (by rfl) hr11 ?_)
    go_ret2
    exact HPr.out _ _ HI12.out HK.out
   ·have HINS:Hid (Calls prog 77 #[.slice A2 ord.length c2',ae 0,al u10.heap.size 1 1] ((u10.alloc (.cells #[ae (cls.length:Int)] 3)).drew) fun e w11=>∃A3 c3,e=.returned (.slice A3 (ord.length+1) c3)/\(w11.cell? (ak pb 2)=some (.slice A2 ord.length c2')/\w11.frozen? ⟨pb,2,none⟩=false)∧
         be w S B db mb pb w.heap.size (w.heap.size+1) (time+1) (esf pb) (al g9 (cls.length+1) cap9) (cls++[⟨x',y',time+1,-1⟩]) (gh kind dyn) (time+1) (.slice A3 (ord.length+1) c3) ((cls.length:Int)::ord) x' y' (w11.setCell (ak pb 2) (.slice A3 (ord.length+1) c3))∧
         ∀(k:Nat) cs,u10.heap[k]?=some (Obj.cells cs 27 (0,0))->(w11.setCell (ak pb 2) (.slice A3 (ord.length+1) c3)).heap[k]?=u10.heap[k]?):=by
     refine ad ((pR _ B _ ord (HI10.later hbi).od u10.heap.size (cls.length:Int) (heap_alloc_new u10 _) (fun e=>by have:=(HI10.od.lt _ e).2;omega) (by omega) (Nat.le_trans hBu hbi.size)).mono ?_)
     rintro e w11 ⟨v',rfl,hr,hF,ho⟩
     obtain⟨A3,c3,rfl⟩:=hr.shape
     obtain⟨hq,hI⟩:=(HI10.later hbi).setOd hr hF (by
      rcases ho with h|h
      ·exact .inl h
      ·exact .inr ⟨_,h,aC⟩)
     refine⟨A3,c3,rfl,hq,hI,fun k cs hk=>?_⟩
     have hk1:=hbi.block k (ap hk).1
     rw[<-hk1]
     exact(HI10.later hbi).od_term hF _ k cs (hk1.trans hk)
    clear hbi hi1 hz4 hz5 hz6 hz7
    obtain⟨p0,p1,p2,p3,pf⟩:=HI10.pr.cells
    have hpl10:=HI10.pr.lt
    go_wp2_with fail
    go_region_with ((with_reducible refine HINS.out.mono ?_);rintro e w11 ⟨A3,c3,rfl,⟨q2,qf⟩,hI,hk⟩;have HI12:=ad hI;have HK12:=ad hk;clear hI hk)
    all_goals
     go_wp2_with fail
     go_ret2
     exact HPr.out _ _ HI12.out HK12.out
end
section
open Go.RowKit Go.Maps
theorem tC (w:World) (db mb:Nat) (time:Int) (es:List (PK×Nat)) (cv:Value) (h:eO w db mb time es cv):
 Calls prog 161 #[ah db] w fun e w'=>e=.returned (ae time)/\w=w':=by
 obtain⟨c0,c1,c2,cf⟩:=h.cells
 clear h
 go_enter func161,ntmps161
 go_wp2_with fail
 go_ret
 exact⟨rfl,rfl⟩
theorem uj (w:World) (db mb pb:Nat) (time:Int) (es:List (PK×Nat)) (cv:Value) (h:eO w db mb time es cv) (n:List UInt8) (a:Int) (hk:ez (n,a)) (hg:aP es (n,a)=some pb) (kind ver:Int) (ov:Value) (now:Int) (hp:gd w pb kind ver ov now):
 Calls prog 155 #[ah db,af n,ae a] w fun e w'=>e=.returned (ae kind)/\w=w':=by
 obtain⟨c0,c1,c2,cf⟩:=h.cells
 obtain⟨p0,p1,p2,p3,pf⟩:=hp.cells
 have hl:=i7 h.map h.ok n a hk
 simp only[hg,Option.map_some,Option.getD_some,pv]at hl
 clear h hp hg hk
 go_enter func155,ntmps155
 go_wp2_with fail
 go_ret
 exact⟨rfl,rfl⟩
theorem wk (w:World):Calls prog 33 #[] w fun e w'=>e=.returned (ah (w.heap.size+1))/\eO w' (w.heap.size+1) w.heap.size 0 [] aj/\aE w w':=by
 have hmm:=@run_makeMap prog
 go_enter func33,ntmps33
 go_wp2_with fail
 go_ret
 refine⟨rfl,?_,?_⟩
 ·refine⟨?_,(aW.made w).alloc _,fun x hx=>by cases hx⟩
  have h:=heap_alloc_new (w.alloc (Obj.map #[] 0)) (Obj.cells #[ae 0,.map (some w.heap.size),aj] 167)
  rwa[show(w.alloc (Obj.map #[] 0)).heap.size=w.heap.size+1 by simp]at h
 ·exact aB.alloc (by simp) _
def uB (t:Int) (c:im):Bool:=decide (c.birth<=t)&&(decide (c.death<0)||decide (t<c.death))
def cZ (cls:List im) (t:Int) (ord:List Int):List Int:=ord.filter (fun x=>(cls[x.toNat]?).any (uB t))
theorem rj (cls:List im) (t:Int) (l:List Int) (x:Int) (c:im) (h:cls[x.toNat]?=some c):cZ cls t (l++[x])=cZ cls t l++(if uB t c=true then[x]else[]):=by
 unfold cZ
 rw[List.filter_append]
 congr 1
 rw[List.filter_cons,h]
 rfl
theorem sM (cls:List im) (t:Int) (l:List Int):(cZ cls t l).length<=l.length:=List.length_filter_le _ _
theorem sj {u:World} {B:Nat} {A:Option Addr} {N c:Nat} {cls:List im} (h:aS u B 184 10 fa (.slice A N c) cls) {i:Nat} {x:im} (hi:cls[i]?=some x):
 ∃g,A=some (ak g 0)/\N=cls.length/\i<N/\B<=g/\g<u.heap.size/\∀j v,(fa x)[j]?=some v->u.cell? (ak g (i*10+j))=some v/\u.frozen? ⟨g,i*10+j,none⟩=false:=by
 have hne:cls≠[]:=by rintro rfl;cases hi
 obtain⟨g,cap,e1,hB,hg,_,hc⟩:=h.cells oL hne
 injection e1 with e1 e2 e3
 exact⟨g,e1,e2,by rw[e2];exact(aq hi).1,hB,hg,fun j v hv=>hc i x hi j v hv⟩
theorem sg (w:World) (B db mb pb:Nat) (time:Int) (es:List (PK×Nat)) (A:Option Addr) (N c:Nat) (cls:List im) (h:eO w db mb time es (.slice A N c)) (n:List UInt8) (a:Int) (hk:ez (n,a)) (hg:aP es (n,a)=some pb) (kind ver:Int) (ov:Value) (ord:List Int) (hp:gd w pb kind ver ov 0)
 (hcl:aS w B 184 10 fa (.slice A N c) cls) (hod:aS w B 3 1 eB ov ord) (hin:∀x∈ord,0<=x/\x<(cls.length:Int)) (ho:ord.length<=10000) (t:Int):
 Calls prog 160 #[ah db,af n,ae a,ae t] w fun e w'=>∃v,e=.returned v/\aS w' w.heap.size 3 1 eB v (cZ cls t ord)/\aE w w':=by
 obtain⟨c0,c1,c2,cf⟩:=h.cells
 obtain⟨p0,p1,p2,p3,pf⟩:=hp.cells
 have hl:=i7 h.map h.ok n a hk
 simp only[hg,Option.map_some,Option.getD_some,pv]at hl
 obtain⟨Ao,co,rfl⟩:=hod.shape
 have hdl:=h.lt
 have HCL:=ad hcl
 have HOD:=ad hod
 have HIN:=ad hin
 have ho':(ord.length:Int)<=10000:=by omega
 have HC:=ad (aD c0 (aD c1 c2))
 obtain⟨i1,z1,hi1,hz4,hz5,hz6,hz7⟩:=nC
 clear h hp hg hk hcl hod hin
 go_enter func160,ntmps160
 go_wp2_with fail
 clear hl c0 c1 c2 cf p0 p1 p2 p3 pf
 go_loopw [9,38] (fun v i wr=>∃k:Nat,k<=ord.length/\i=ae k/\Hid (aS wr w.heap.size 3 1 eB v (cZ cls t (ord.take k)))/\Hid (aE w wr)) (fun _ i _=>ord.length-(intOf i).toNat)
 case atStart=>exact⟨0,Nat.zero_le _,rfl,ad (aS.nil _ _ _ _ _),ad aA⟩
 case round=>
  obtain⟨k,hk,rfl,HR,HB⟩:=hrel
  have hwr:=HB.size
  by_cases hlt:k<ord.length
  ·have hx:=au hlt
   have hsn:=List.take_succ_eq_append_getElem hlt
   have htk:=sM cls t (ord.take k)
   rw[List.length_take]at htk
   have hmem:=HIN.out _ (List.getElem_mem hlt)
   generalize ord[k]=x at hx hsn hmem
   obtain⟨m,rfl⟩:∃m:Nat,x=(m:Int):=⟨x.toNat,by omega⟩
   have hm:m<cls.length:=by omega
   have hcm:=au hm
   generalize cls[m]=cc at hcm
   obtain⟨go,e1,hgo,hgo2,hco⟩:∃go,Ao=some (ak go 0)/\B<=go/\go<w.heap.size/\w.cell? (ak go k)=some (ae (m:Int)):=by
    obtain⟨g,cap,e1,hB,hg,_,hc⟩:=HOD.cells iK (by rintro rfl;cases hx)
    injection e1 with e1 e2 e3
    exact⟨g,e1,hB,hg,by have:=(hc k _ hx 0 (ae (m:Int)) rfl).1;simpa using this⟩
   subst e1
   obtain⟨g,e2,hN,hmN,hgB,hgl,hcc⟩:=sj HCL.out hcm
   subst e2
   have q8:=(hcc 8 (ae cc.birth) rfl).1
   have q9:=(hcc 9 (ae cc.death) rfl).1
   have hco':=(HB.cell (p:=(ak go k)) hgo2).trans hco
   have q8':=(HB.cell (p:=(ak g (m*10+8))) hgl).trans q8
   have q9':=(HB.cell (p:=(ak g (m*10+9))) hgl).trans q9
   have c2:=(HB.cell (p:=(ak db 2)) hdl).trans HC.2.2
   have hsn2:=rj cls t (ord.take k) (m:Int) cc hcm
   rw[<-hsn]at hsn2
   have HSN:=ad hsn2
   have hlt':(k:Int)<(ord.length:Int):=by omega
   have hmN':(m:Int)<(N:Int):=by omega
   clear hx hsn hsn2 hcm hcc q8 q9 hco hmem
   obtain⟨hd,bd,bi,de⟩:=cc
   simp only at q8' q9'
   unfold uB at HSN
   simp only at HSN
   have hq:(bi<=t/\de<0)\/(bi<=t/\¬de<0/\t<de)\/(bi<=t/\¬de<0/\¬t<de)\/¬bi<=t:=by
    by_cases h1:bi<=t<;>by_cases h2:de<0<;>by_cases h3:t<de<;>simp[h1,h2,h3]
   rcases hq with⟨hb1,hb2⟩|⟨hb1,hb2,hb3⟩|⟨hb1,hb2,hb3⟩|hb1
   ·have HBS:=ad (aD hb1 hb2)
    have HSA:Hid (cZ cls t (ord.take (k+1))=cZ cls t (ord.take k)++[(m:Int)]):=ad (by rw[HSN.out];simp[HBS.out])
    clear HSN HBS
    go_wp2_with (at_builtin;refine cK rfl _ _ 178 rfl _ w.heap.size 3 i1 z1 1 8 eB underlying178 hi1 hz4 hz5 hz6 hz7 (by decide) iK kC _ (cZ cls t (ord.take k)) (m:Int) rfl (HR.alloc _) _ _ rfl (fun j u hu=>bV _ _ _ j u (by simpa[eB]using hu)) (by unfold maxLen;omega) (by omega) (Nat.le_trans hwr (by simp)) ?_)
    intro v' w5 hrow5 hg5
    have HR5:Hid (aS w5 w.heap.size 3 1 eB v' (cZ cls t (ord.take (k+1)))):=ad (by rw[HSA.out];exact hrow5)
    have HB5:Hid (aE w w5):=ad (((Fr.of_below (fun k=>w.heap.size<=k) HB.out).alloc _|>.grown hg5 fun g e=>.inl (HR.lt g e).1).below aC (fun k hk=>by omega))
    clear hrow5 hg5
    go_wp2_with fail
    go_roundw
    case rel=>exact⟨k+1,hlt,by go_num,HR5,HB5⟩
    case measure=>simp[intOf];omega
   ·have HBS:=ad (aD hb1 (aD hb2 hb3))
    have HSA:Hid (cZ cls t (ord.take (k+1))=cZ cls t (ord.take k)++[(m:Int)]):=ad (by rw[HSN.out];simp[HBS.out])
    clear HSN HBS
    go_wp2_with (at_builtin;refine cK rfl _ _ 178 rfl _ w.heap.size 3 i1 z1 1 8 eB underlying178 hi1 hz4 hz5 hz6 hz7 (by decide) iK kC _ (cZ cls t (ord.take k)) (m:Int) rfl (HR.alloc _) _ _ rfl (fun j u hu=>bV _ _ _ j u (by simpa[eB]using hu)) (by unfold maxLen;omega) (by omega) (Nat.le_trans hwr (by simp)) ?_)
    intro v' w5 hrow5 hg5
    have HR5:Hid (aS w5 w.heap.size 3 1 eB v' (cZ cls t (ord.take (k+1)))):=ad (by rw[HSA.out];exact hrow5)
    have HB5:Hid (aE w w5):=ad (((Fr.of_below (fun k=>w.heap.size<=k) HB.out).alloc _|>.grown hg5 fun g e=>.inl (HR.lt g e).1).below aC (fun k hk=>by omega))
    clear hrow5 hg5
    go_wp2_with fail
    go_roundw
    case rel=>exact⟨k+1,hlt,by go_num,HR5,HB5⟩
    case measure=>simp[intOf];omega
   ·have HBS:=ad (aD hb1 (aD hb2 hb3))
    have HSA:Hid (cZ cls t (ord.take (k+1))=cZ cls t (ord.take k)):=ad (by rw[HSN.out];simp[HBS.out])
    clear HSN HBS
    go_wp2_with fail
    go_roundw
    case rel=>exact⟨k+1,hlt,by go_num,ad (by rw[HSA.out];exact HR.out),HB⟩
    case measure=>simp[intOf];omega
   ·have HBS:=ad hb1
    have HSA:Hid (cZ cls t (ord.take (k+1))=cZ cls t (ord.take k)):=ad (by rw[HSN.out];simp[HBS.out])
    clear HSN HBS
    go_wp2_with fail
    go_roundw
    case rel=>exact⟨k+1,hlt,by go_num,ad (by rw[HSA.out];exact HR.out),HB⟩
    case measure=>simp[intOf];omega
  ·have hkn:k=ord.length:=by omega
   subst hkn
   rw[List.take_length]at HR
   go_wp2_with fail
   go_ret
   exact⟨_,rfl,HR.out,HB.out⟩
end
section
open Go.RowKit Go.Maps
theorem aS.by_fr {α:Type} {S:Nat->Prop} {w w':World} {B sz:Nat} {e:TypeId} {enc:α->List Value} {v:Value} {l:List α} (h:aS w B e sz enc v l) (hF:Fr S w w') (hS:∀g,v.ownBlock=some g->¬S g):aS w' B e sz enc v l:=
 h.keep fun k hk=>hF.block k (h.lt k hk).2 (hS k hk)
theorem jU {w E u:World} (h:aE w E) (hb:aE E u):aE w u:=h.trans (hb.mono h.size)
def pL:PK:=([112],1)
def rD (u:World) (B:Nat) (c:im) (i:Nat):Prop:=
 c.body=dX 3 0 [116,114,117,101]/\∃g,c.head=⟨4,0,[112],some (ak g 0),1,1⟩/\B<=g/\u.heap[g]?=some (.cells (aJ (dX 2 (i:Int) [])).toArray 27 (0,0))
theorem rD.keep {u u':World} {B:Nat} {c:im} {i:Nat} (h:rD u B c i) (hk:∀(g:Nat) cs,u.heap[g]?=some (Obj.cells cs 27 (0,0))->u'.heap[g]?=u.heap[g]?):rD u' B c i:=by
 obtain⟨hb,g,e1,e2,e3⟩:=h
 exact⟨hb,g,e1,e2,(hk g _ e3).trans e3⟩
theorem Ce {u:World} {a mb:Nat} {c1:Array Value} {t1:TypeId} {f1:Nat×Nat} {es:List (PK×Nat)} (h1:u.heap[a]?=some (.cells c1 t1 f1)) (h2:aW u mb pk pv es):a≠mb:=by
 rintro rfl
 obtain⟨es',clock,hb,_⟩:=h2.blk
 rw[h1]at hb
 cases hb
structure jt (w:World) (db mb:Nat) (time:Int) (es:List (PK×Nat)) (A:Option Addr) (c:Nat) (cls:List im) (ov:Value) (ord:List Int) (wv:Value) (want:List Int) (u:World):Prop where
 db':eO u db mb time es (.slice A cls.length c)
 cl:aS u w.heap.size 184 10 fa (.slice A cls.length c) cls
 od:aS u w.heap.size 3 1 eB ov ord
 wt:aS u w.heap.size 3 1 eB wv want
 sep:∀g,wv.ownBlock=some g->ov.ownBlock≠some g
 pr:(es=[]/\ov=aj/\cls=[]/\ord=[])\/∃pb ver,es=[(pL,pb)]/\gd u pb 2 ver ov 0/\w.heap.size<=pb
 facts:∀i cc,cls[i]?=some cc->rD u w.heap.size cc (i+1)
 sdb:w.heap.size<=db
 smb:w.heap.size<=mb
 below:aE w u
section
variable {w u u':World} {db mb:Nat} {time:Int} {es:List (PK×Nat)} {A:Option Addr} {c:Nat} {cls:List im} {ov:Value} {ord:List Int} {wv:Value} {want:List Int}
theorem jt.later (h:jt w db mb time es A c cls ov ord wv want u) (hb:aE u u'):jt w db mb time es A c cls ov ord wv want u':=
 ⟨h.db'.later hb,h.cl.later hb,h.od.later hb,h.wt.later hb,h.sep,h.pr.imp id (fun⟨pb,ver,h1,h2,h3⟩=>⟨pb,ver,h1,h2.later hb,h3⟩),
  fun i cc hi=>(h.facts i cc hi).keep fun g _ hg=>hb.block g (ap hg).1,h.sdb,h.smb,jU h.below hb⟩
end
def rP (db mb:Nat) (cv ov:Value) (es:List (PK×Nat)) (k:Nat):Prop:=k=db\/k=mb\/cv.ownBlock=some k\/ov.ownBlock=some k\/es=[(pL,k)]
theorem jt.added {w W4 w5:World} {db mb:Nat} {time:Int} {es:List (PK×Nat)} {A:Option Addr} {c:Nat} {cls:List im} {ov:Value} {ord:List Int} {wv:Value} {want:List Int} (h:jt w db mb time es A c cls ov ord wv want W4)
 {kind:Int} {pb bx bz:Nat} {x y x' y':TV} {cv' ov':Value} {ord':List Int} (hk2:gh kind true=2) (hpb:w.heap.size<=pb) (hx:x.k=4/\x.n=0/\x.s=[112]) (hy:y.k=3/\y.n=0/\y.s=[116,114,117,101])
 (hS:be W4 (rP db mb (.slice A cls.length c) ov es) w.heap.size db mb pb bx bz (time+1) [(pL,pb)] cv' (cls++[⟨x',y',time+1,-1⟩]) (gh kind true) (time+1) ov' ord' x' y' w5)
 (hcx:dH W4.heap.size w5 x x' (some (2,((cls.length+1:Nat):Int),[]))) (hcy:dH W4.heap.size w5 y y' none):
 ∃A' c',jt w db mb (time+1) [(pL,pb)] A' c' (cls++[⟨x',y',time+1,-1⟩]) ov' ord' wv want w5:=by
 obtain⟨A',c',rfl⟩:=hS.cl.shape
 have hB4:=h.below.size
 have hty:∀g cs t fr,W4.heap[g]?=some (.cells cs t fr)->t≠167->t≠184->t≠3->t≠180->¬rP db mb (.slice A cls.length c) ov es g:=fun g cs t fr hg h1 h2 h3 h4 e=>by
  rcases e with e|e|e|e|e
  ·subst e
   rw[h.db'.blk]at hg
   cases hg
   exact h1 rfl
  ·exact Ce hg h.db'.map e
  ·obtain⟨_,cur,hc⟩:=h.cl.block e
   rw[hg]at hc
   cases hc
   exact h2 rfl
  ·obtain⟨_,cur,hc⟩:=h.od.block e
   rw[hg]at hc
   cases hc
   exact h3 rfl
  ·rcases h.pr with⟨h5,_⟩|⟨pb',ver,h5,h6,_⟩
   ·rw[h5]at e
    cases e
   ·rw[h5]at e
    have e':pb'=g:=by simpa using e
    subst e'
    unfold gd at h6
    rw[hg]at h6
    cases h6
    exact h4 rfl
 have hwS:∀g,wv.ownBlock=some g->¬rP db mb (.slice A cls.length c) ov es g:=fun g hg e=>by
  obtain⟨_,cur,hc⟩:=h.wt.block hg
  rcases e with e|e|e|e|e
  ·subst e
   rw[h.db'.blk]at hc
   cases hc
  ·exact eS hc h.db'.map e
  ·obtain⟨_,cur2,hc2⟩:=h.cl.block e
   rw[hc]at hc2
   cases hc2
  ·exact h.sep g hg e
  ·rcases h.pr with⟨h5,_⟩|⟨pb',ver,h5,h6,_⟩
   ·rw[h5]at e
    cases e
   ·rw[h5]at e
    have e':pb'=g:=by simpa using e
    subst e'
    unfold gd at h6
    rw[hc]at h6
    cases h6
 have hlen:(cls++[(⟨x',y',time+1,-1⟩:im)]).length=cls.length+1:=by simp
 refine⟨A',c',hS.db',hS.cl,hS.od,h.wt.by_fr hS.fr hwS,fun g hg e=>?_,.inr ⟨pb,time+1,rfl,by have:=hS.pr;rw[hk2]at this;exact this,hpb⟩,fun i cc hi=>?_,h.sdb,h.smb,?_⟩
 ·rcases hS.sov g e with h1|h1
  ·exact hwS g hg h1
  ·have:=(h.wt.lt g hg).2
   omega
 ·by_cases hlt:i<cls.length
  ·rw[List.getElem?_append_left hlt]at hi
   exact(h.facts i cc hi).keep fun g cs hg=>hS.fr.block g (ap hg).1 (hty _ _ _ _ hg (by decide) (by decide) (by decide) (by decide))
  ·have hi2:i=cls.length:=by
    have:=(aq hi).1
    rw[hlen]at this
    omega
   subst hi2
   rw[List.getElem?_append_right aC,Nat.sub_self]at hi
   have hc:cc=⟨x',y',time+1,-1⟩:=by simpa using hi.symm
   subst hc
   obtain⟨g,e1,e2,e3⟩:=hcx
   refine⟨?_,g,?_,by omega,e3⟩
   ·have:y'=dX y.k y.n y.s:=hcy
    rw[this,hy.1,hy.2.1,hy.2.2]
   ·rw[e1,hx.1,hx.2.1,hx.2.2]
 ·refine((Fr.of_below (fun k=>w.heap.size<=k) h.below).trans (hS.fr.mono fun k _ hk=>?_)).below aC (fun k hk=>by omega)
  have hsd:=h.sdb
  have hsm:=h.smb
  rcases hk with e|e|e|e|e
  ·omega
  ·omega
  ·exact(h.cl.lt k e).1
  ·exact(h.od.lt k e).1
  ·rcases h.pr with⟨h5,_⟩|⟨pb',ver,h5,h6,h7⟩
   ·rw[h5]at e
    cases e
   ·rw[h5]at e
    have e':pb'=k:=by simpa using e
    omega
end
section
open Go.RowKit Go.Maps
def EE:List UInt8:=[116,114,117,101]
theorem mR {W:World} {x:TV} {z:Int} (h:aI W (aR W 27) x (.mk 4 0 [112] [.mk 2 z [] []])):∃A c b off,x=⟨4,0,[112],A,1,c⟩/\A=some (ak b off)/\aR W 27 b/\∀u,u.heap[b]?=W.heap[b]?->cX u x (some (2,z,[])):=by
 generalize hg:Tm.mk 4 0 [112] [.mk 2 z [] []]=G at h
 cases h with
 |mk _ args xs h1 h2 h3 hc ht=>
  obtain⟨k,n,s,A,l,c⟩:=x
  injection hg with q1 q2 q3 q4
  simp only at q1 q2 q3 h1 h2 hc
  subst q1 q2 q3 q4
  obtain rfl:l=1:=h2.symm
  obtain⟨y,rfl⟩:=List.length_eq_one_iff.1 h1
  obtain⟨b,off,e1,e2,e3⟩:=hc 0 y rfl
  have hy:=ht 0 y _ rfl rfl
  refine⟨A,c,b,off,rfl,e1,e2,fun u hu=>⟨(by decide:(4:Int)≠1),(by decide:([112]:List UInt8).length<=maxLen),rfl,(by decide:(2:Int)≠1),(by decide:([]:List UInt8).length<=maxLen),b,off,y.A,y.cap,e1,?_,fun j v hv=>?_⟩⟩
  ·rcases Nat.lt_or_ge b u.heap.size with h|h
   ·exact h
   ·obtain⟨cs,e2⟩:=e2
    rw[Array.getElem?_eq_none h,e2]at hu
    cases hu
  ·have hyt:y=⟨2,z,[],y.A,0,y.cap⟩:=by
    generalize hg2:Tm.mk 2 z [] []=G at hy
    cases hy with
    |mk _ a2 x2 k1 k2 k3 _ _=>
     obtain⟨yk,yn,ys,yA,yl,yc⟩:=y
     injection hg2 with r1 r2 r3 r4
     simp only at r1 r2 r3 k2
     subst r1 r2 r3 r4
     obtain rfl:yl=0:=k2.symm
     rfl
   rw[<-hyt]at hv
   have:=e3 j v hv
   rw[Nat.zero_mul,Nat.add_zero]at this
   exact(World.cell?_of_block (a:=⟨b,off+j,none⟩) hu).trans this
theorem Aq {W:World} {S:Nat->Prop} {y:TV} (h:aI W S y (.mk 3 0 EE [])):y.k=3/\y.n=0/\y.s=EE/\∀u,cX u y none:=by
 generalize hg:Tm.mk 3 0 EE []=G at h
 cases h with
 |mk _ args xs h1 h2 h3 hc ht=>
  injection hg with q1 q2 q3 q4
  refine⟨q1.symm,q2.symm,q3.symm,fun u=>⟨?_,h3,?_⟩⟩
  ·rw[<-q1];decide
  ·rw[<-q4]at h2
   exact h2.symm
def FH (w W4:World) (db mb:Nat) (time:Int) (es:List (PK×Nat)) (A:Option Addr) (c:Nat) (cls:List im) (ov:Value) (ord:List Int) (wv:Value) (want:List Int) (e:Ending) (u':World):Prop:=
 e=.returned (.tuple #[ae (cls.length:Int),ae 0])/\(∃es' A' c' cc ov',cc.birth=time+1/\cc.death= -1/\jt w db mb (time+1) es' A' c' (cls++[cc]) ov' (ord++[(cls.length:Int)]) wv want u')/\Fr (rP db mb (.slice A cls.length c) ov es) W4 u'
theorem uv {w W4:World} {db mb:Nat} {time:Int} {es:List (PK×Nat)} {A:Option Addr} {c:Nat} {cls:List im} {ov:Value} {ord:List Int} {wv:Value} {want:List Int} (h:jt w db mb time es A c cls ov ord wv want W4) {t:TypeId} {b:Nat} (hb:aR W4 t b) (ht:t∉[167,184,3,180]):¬rP db mb (.slice A cls.length c) ov es b:=fun e=>by
 simp only[List.mem_cons,List.mem_nil_iff,or_false,not_or]at ht
 rcases e with e|e|e|e|e
 ·exact hb.ne ⟨_,h.db'.blk⟩ ht.1 e
 ·exact h.db'.map.ne hb e.symm
 ·exact hb.ne (h.cl.ty e) ht.2.1 rfl
 ·exact hb.ne (h.od.ty e) ht.2.2.1 rfl
 ·rcases h.pr with⟨h5,_⟩|⟨pb',ver,h5,h6,_⟩
  ·rw[h5]at e
   cases e
  ·rw[h5]at e
   have e':pb'=b:=by simpa using e
   exact hb.ne (t':=180) ⟨_,h6⟩ ht.2.2.2 e'.symm
theorem Cz (w W4:World) (db mb:Nat) (time:Int) (es:List (PK×Nat)) (A:Option Addr) (c:Nat) (cls:List im) (ov:Value) (ord:List Int) (wv:Value) (want:List Int) (h:jt w db mb time es A c cls ov ord wv want W4) (x y:TV)
 (hx:aI W4 (aR W4 27) x (.mk 4 0 [112] [.mk 2 ((cls.length+1:Nat):Int) [] []])) (hy:aI W4 (aR W4 27) y (.mk 3 0 EE [])) (hl:cls.length<=200) (ho:ord.length<=200) (ht:0<=time/\time<=1000):
 Calls prog 36 #[ah db,aU x,aU y,.bool false,.bool true] W4 (FH w W4 db mb time es A c cls ov ord wv want):=by
 obtain⟨Ax,cx,b,off,rfl,eA,hb,hsx⟩:=mR hx
 obtain⟨y1,y2,y3,hsy⟩:=Aq hy
 have hbS:=uv h hb (by decide)
 have hSx:∀u,Fr (rP db mb (.slice A cls.length c) ov es) W4 u->cX u ⟨4,0,[112],Ax,1,cx⟩ (some (2,((cls.length+1:Nat):Int),[])):=fun u hu=>hsx u (hu.block b hb.lt hbS)
 have hck:dG (iu ⟨4,0,[112],Ax,1,cx⟩ (some (2,((cls.length+1:Nat):Int),[])))=0:=by
  simp[dG,iu,Tm.may,Tm.mays,eR,Tm.deep,Tm.deeps,Tm.size,Tm.sizes]
 have hcy:dG (iu y none)=0:=by
  unfold iu
  rw[y1,y2,y3]
  decide+kernel
 have hB4:=h.below.size
 rcases h.pr with⟨h5,h6,h7,h8⟩|⟨pb0,ver,h5,h6,h7⟩
 ·refine(oQ W4 (rP db mb (.slice A cls.length c) ov es) w.heap.size db mb time es A cls.length c cls 0 0 ov ord h.db' h.cl h.od hB4 ⟨4,0,[112],Ax,1,cx⟩ y (some (2,((cls.length+1:Nat):Int),[])) none
   (hSx W4 (Fr.refl _ _)) (hsy W4) hck hcy (.inr rfl) hSx (fun u _=>hsy u) (by omega) (by omega) (by omega) false true (.inl rfl) (.inr (.inl rfl)) (fun g hg=>.inr (.inr (.inl hg))) (fun g hg=>.inr (.inr (.inr (.inl hg))))
   (fun pb=>W4.heap.size<=pb) (fun pb=>[(pL,pb)]) (fun pb h=>.inr h) (fun u hu=>(C0 u db mb time es _ (h.db'.later hu) [112] 1 ⟨by decide,by decide⟩ (by rw[h5];rfl)).mono fun e u' ⟨pb,g1,g2,g3,g4,g5⟩=>⟨pb,g1,Nat.le_trans hu.size g2,by rw[h5]at g3;exact g3,by rw[h6];exact g4,g5⟩)).mono ?_
  rintro e w5 ⟨pb,bx,bz,x',y',cv',ov',rfl,hpb,hS,hcx,hcy⟩
  obtain⟨A',c',hL⟩:=h.added (kind:=0) rfl (Nat.le_trans hB4 hpb) ⟨rfl,rfl,rfl⟩ ⟨y1,y2,y3⟩ hS hcx hcy
  exact⟨rfl,⟨_,A',c',_,ov',rfl,rfl,hL⟩,hS.fr⟩
 ·refine(oQ W4 (rP db mb (.slice A cls.length c) ov es) w.heap.size db mb time es A cls.length c cls 2 ver ov ord h.db' h.cl h.od hB4 ⟨4,0,[112],Ax,1,cx⟩ y (some (2,((cls.length+1:Nat):Int),[])) none
   (hSx W4 (Fr.refl _ _)) (hsy W4) hck hcy (.inr rfl) hSx (fun u _=>hsy u) (by omega) (by omega) (by omega) false true (.inl rfl) (.inr (.inl rfl)) (fun g hg=>.inr (.inr (.inl hg))) (fun g hg=>.inr (.inr (.inr (.inl hg))))
   (fun pb=>pb=pb0) (fun pb=>[(pL,pb)]) (fun pb h=>.inl (by rw[h];exact .inr (.inr (.inr (.inr h5))))) (fun u hu=>(BW u db mb pb0 time es _ (h.db'.later hu) [112] 1 ⟨by decide,by decide⟩ (by rw[h5];rfl)).mono fun e u' ⟨g1,g2⟩=>⟨pb0,g1,rfl,by rw[<-h5];exact(h.db'.later hu).later g2,(h6.later hu).later g2,Fr.of_below _ g2⟩)).mono ?_
  rintro e w5 ⟨pb,bx,bz,x',y',cv',ov',rfl,hpb,hS,hcx,hcy⟩
  obtain⟨A',c',hL⟩:=h.added (kind:=2) rfl (by rw[hpb];exact h7) ⟨rfl,rfl,rfl⟩ ⟨y1,y2,y3⟩ hS hcx hcy
  exact⟨rfl,⟨_,A',c',_,ov',rfl,rfl,hL⟩,hS.fr⟩
end
section
open Go.RowKit Go.Maps
structure mL (B db mb pb:Nat) (A:Option Addr) (c:Nat) (cls:List im) (ver:Int) (ov:Value) (u:World):Prop where
 at':eO u db mb 2 [(pL,pb)] (.slice A 2 c)
 pr:gd u pb 2 ver ov 0
 cl:aS u B 184 10 fa (.slice A 2 c) cls
 od:aS u B 3 1 eB ov [0,1]
 len:cls.length=2
 age:∀(i:Nat) (cc:im),cls[i]?=some cc->cc.birth=(i:Int)+1/\cc.death= -1
 facts:∀(i:Nat) (cc:im),cls[i]?=some cc->rD u B cc (i+1)
def qq:List TypeId:=[167,180,184,3,27]
section
variable {B db mb pb:Nat} {A:Option Addr} {c:Nat} {cls:List im} {ver:Int} {ov:Value} {u u':World}
theorem mL.keep (h:mL B db mb pb A c cls ver ov u) (hb:∀t k,t∈qq->aR u t k->u'.heap[k]?=u.heap[k]?) (hm:u'.heap[mb]?=u.heap[mb]?):mL B db mb pb A c cls ver ov u':=
 ⟨h.at'.keep (hb 167 _ (by decide) ⟨_,h.at'.blk⟩) hm,(hb 180 _ (by decide) ⟨_,h.pr⟩).trans h.pr,h.cl.keep fun k hk=>hb 184 k (by decide) (h.cl.ty hk),h.od.keep fun k hk=>hb 3 k (by decide) (h.od.ty hk),h.len,h.age,
  fun i cc hi=>(h.facts i cc hi).keep fun g cs hg=>hb 27 g (by decide) ⟨_,hg⟩⟩
theorem mL.later (h:mL B db mb pb A c cls ver ov u) (hb:aE u u'):mL B db mb pb A c cls ver ov u':=h.keep (fun _ k _ hk=>hb.block k hk.lt) (hb.block _ h.at'.map.lt)
theorem mL.tf {N:Nat} {tys:List TypeId} (h:mL B db mb pb A c cls ver ov u) (hf:eL N tys u u') (ht:∀t∈qq,t∉tys):mL B db mb pb A c cls ver ov u':=
 h.keep (fun t _ h1 hk=>hf.block hk (ht t h1)) ((hf.map h.at'.map).blk|>fun _=>hf.fr.block _ h.at'.map.lt fun e=>h.at'.map.ne e.2.choose_spec.2 rfl)
theorem ES:ez (([112],1):PK):=by unfold ez;decide
theorem C4 (pb:Nat):aP [(pL,pb)] (([112],1):PK)=some pb:=by simp[aP,pL]
theorem mL.kind (h:mL B db mb pb A c cls ver ov u):Calls prog 155 #[ah db,.string ⟨#[112]⟩,ae 1] u fun e w'=>e=.returned (ae 2)/\u=w':=
 uj u db mb pb 2 _ _ h.at' [112] 1 ES (C4 pb) 2 ver ov 0 h.pr
theorem mL.alive (h:mL B db mb pb A c cls ver ov u):Calls prog 160 #[ah db,.string ⟨#[112]⟩,ae 1,ae 2] u fun e w'=>∃v,e=.returned v/\aS w' u.heap.size 3 1 eB v [0,1]/\aE u w':=by
 obtain⟨c0,c1,rfl⟩:∃c0 c1,cls=[c0,c1]:=by
  have hl:=h.len
  match cls,hl with
  |[c0,c1],_=>exact⟨c0,c1,rfl⟩
 have a0:=h.age 0 c0 rfl
 have a1:=h.age 1 c1 rfl
 refine(sg u B db mb pb 2 _ A 2 c [c0,c1] h.at' [112] 1 ES (C4 pb) 2 ver ov [0,1] h.pr h.cl h.od (by simp) (by simp) 2).mono ?_
 rintro e w' ⟨v,h1,h2,h3⟩
 refine⟨v,h1,?_,h3⟩
 have e:cZ [c0,c1] 2 [0,1]=[0,1]:=by
  simp[cZ,uB,a0.1,a0.2,a1.1,a1.2]
 rwa[e]at h2
theorem mL.time (h:mL B db mb pb A c cls ver ov u):Calls prog 161 #[ah db] u fun e w'=>e=.returned (ae 2)/\u=w':=tC u db mb 2 _ _ h.at'
end
end
end Go.Proofs.YtigeofkllldilaaGreatDoor
