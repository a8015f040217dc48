import Derived.Test.YtigeofkllldilaaGreatDoorJM33
set_option maxHeartbeats 32000000
set_option maxRecDepth 100000
set_option linter.unusedSectionVars false
open Go.Proofs.Tryz
namespace Go.Proofs.YtigeofkllldilaaGreatDoor
section
open Go.RowKit Go.Maps
variable[Base]
theorem aT.spend {u:World} {rb:Nat} {r:RC} {l:List (Int×List UInt8)} {db ob:Nat} {spent:Int} {over:List UInt8} (h:aT u rb r l db ob spent over):
 aT (u.setCell (ak r.mb 6) (ae (spent+1))) rb r l db ob (spent+1) over/\TF [105] u (u.setCell (ak r.mb 6) (ae (spent+1))):=by
 have hf:TF [105] u (u.setCell (ak r.mb 6) (ae (spent+1))):=(TF.refl _ u).set (p:=(ak r.mb 6)) (t:=105) ⟨_,h.mach⟩ (by decide) h.few.2.2 _
 exact⟨⟨(hf.block h.run.ty (by decide)).trans h.run,hf.row h.ev (by decide),aK h.mach _,h.few⟩,hf⟩
theorem xS (u:World) (rb room fb i j:Nat) (r:RC) (l:List (Int×List UInt8)) (db ob:Nat) (spent:Int) (over:List UInt8) (cv bv:Value) (xs:List ec) (cs:List Sc) (ys:List (Nat×Int)) (c:Sc) (m:Nat) (Q:Ending->World->Prop)
 (h:aT u rb r l db ob spent over) (hs:aL r.sb room u cv bv xs cs ys) (hfr:r.fr=ah fb) (hf:ea u fb (i:Nat) 0) (hroot:bP cs i j) (hc:cs[j]?=some c) (hk:c.k=4) (ha:c.args.length=m) (hm:1<=m/\m<=3) (hkd:bI 4 c.s m=0) (hsl:c.s.length<=maxLen) (hsp:0<=spent/\spent<300)
 (hQ:∀e w,Q e w->∃o:Int,e=.returned (ae o))
 (hC:∀v A c',aT v rb {r with fr:=.pointer none,loose:=0} l db ob (spent+1) over->aL r.sb room v cv bv xs cs ys->bn v A c.args->TF [124,105] u v->Calls prog 78 #[ah rb,ah fb,aU (di j c),.slice A m c'] v Q):
 Calls prog 105 #[ah rb] u Q:=by
 have c7:u.cell? (ak rb 7)=some (ah fb):=(h.run.get 7).trans (by show some r.fr=_;rw[hfr])
 have cf:=h.run.fz
 have hc':∀k,u.cell? (ak fb k)=(#[ae 0,ae (i:Nat),ae 0,.pointer none,.pointer none,.pointer none]:Array Value)[k]?:=fun k=>cell_of_row _ _ k _ _ _ hf
 have d0:=(hc' 0).trans rfl
 have d1:=(hc' 1).trans rfl
 have d4:=(hc' 4).trans rfl
 have hne:fb≠rb:=aR.ne (t:=243) ⟨_,hf⟩ h.run.ty (by decide)
 have hne2:rb≠fb:=hne.symm
 have hlt:=h.run.lt
 obtain⟨V,hV⟩:∃V,V=u.setCell (ak rb 7) (.pointer none):=⟨_,rfl⟩
 have h9:=h.put (r':= {r with fr:=.pointer none}) 7 (.pointer none) rfl rfl rfl
 rw[<-hV]at h9
 have HV:=ad (aD h9.1 (aD (hs.tf h9.2 (by decide)) (aD ((h9.2.block (t:=243) ⟨_,hf⟩ (by decide)).trans hf) h9.2)))
 have HH:=ad (aD hroot (aD hc (aD hk (aD ha (aD hkd (aD hsl (aD hsp (aD hQ hC))))))))
 have HMM:=ad hm
 clear hm h hs hfr hf hroot hc hk ha hkd hsl hsp hQ hC hc' h9
 go_enter func105,ntmps105
 go_upto_region 5 with fail
 rw[<-hV]
 clear hV c7 cf d0 d1 d4 hlt
 have hc':∀k,V.cell? (ak fb k)=(#[ae 0,ae (i:Nat),ae 0,.pointer none,.pointer none,.pointer none]:Array Value)[k]?:=fun k=>cell_of_row _ _ k _ _ _ HV.2.2.1
 have d0:=(hc' 0).trans rfl
 have d1:=(hc' 1).trans rfl
 have c1:V.cell? (ak rb 1)=some (ah r.sb):=HV.1.run.get 1
 clear hc'
 go_upto_region 15 with fail
 obtain⟨sb,hsb⟩:∃sb,sb=r.sb:=⟨_,rfl⟩
 have HE:Hid (∀w,aE V w->w.cell? (ak rb 1)=some (ah sb)/\w.cell? (ak fb 1)=some (ae (i:Nat))):=ad fun w hb=>by
  refine⟨by rw[(HV.1.run.later hb).get 1,hsb];rfl,?_⟩
  have h1:ea w fb (i:Nat) 0:=ea.later HV.2.2.1 hb
  exact(cell_of_row _ _ 1 _ _ _ h1).trans rfl
 have HLK:Hid (∀W,aE V W->Calls prog 163 #[ah sb,ae (i:Nat)] W fun e w1=>∃A' c',e=.returned (.tuple #[.agg #[ae 4,ae c.n,af c.s,aj],.slice A' m c'])/\bn w1 A' c.args/\aE W w1/\aE V w1):=ad fun W hb=>by
  have hs:=HV.2.1.later hb
  rw[<-hsb]at hs
  refine(fo hs HH.1 HH.2.1 (by have:=HH.2.2.2.1;have:=HMM.out;omega)).mono ?_
  rintro e w1 ⟨A',c',rfl,h1,-,h3⟩
  have hk:=HH.2.2.1
  refine⟨A',c',?_,h1,h3,hb.trans (h3.mono hb.size)⟩
  rw[HH.2.2.2.1]
  unfold di
  rw[if_neg (by rw[hk];decide),hk]
  rfl
 have HB1:=ad (Below.refl V.heap.size V).drew
 have HB2:=ad ((Below.refl V.heap.size V).alloc aC (.cells #[ae 0,ae 0,ai,aj] 27)).drew
 have HD2:=ad (HE.out _ HB2.out)
 have HZ2:Hid ((V.alloc (.cells #[ae 0,ae 0,ai,aj] 27)).drew.heap[V.heap.size]?=some (.cells #[ae 0,ae 0,ai,aj] 27 (0,0))):=ad (heap_alloc_new V _)
 have HL2:Hid (V.heap.size<(V.alloc (.cells #[ae 0,ae 0,ai,aj] 27)).drew.heap.size):=ad (ap HZ2.out).1
 have HD:=ad (HE.out _ aA.drew)
 have HSB:=ad hsb
 clear hsb c1 d0 d1
 go_region_held3 (fun w=>w.cell? (ak rb 1)=some (ah sb)/\w.cell? (ak fb 1)=some (ae (i:Nat)))
  (first|(with_reducible exact HA4.out)|(with_reducible exact HA3.out)|(with_reducible exact HA2.out)|(with_reducible exact HA1.out)|(with_reducible exact HD2.out)|(with_reducible exact HD.out))
  (first|(go_at_call 163;with_reducible (refine(HLK.out _ HB2.out).mono ?_;rintro e w1 ⟨A',c',rfl,g1,g2,g3⟩);have HZ1:=ad ((g2.block V.heap.size HL2.out).trans HZ2.out);obtain⟨x0,x1,x2,x3,xf⟩:=aH HZ1.out;have HA1:=ad (HE.out w1 g3);have HA4:=ad (HE.out _ ((((g3.setCell (p:=(ak V.heap.size 0)) aC (ae 4)).setCell (p:=(ak V.heap.size 1)) aC (ae c.n)).setCell (p:=(ak V.heap.size 2)) aC (af c.s)).setCell (p:=(ak V.heap.size 3)) aC aj));have HG:=ad (aD g1 g3);clear g1 g2 g3)|(go_at_call 163;with_reducible (refine(HLK.out _ HB1.out).mono ?_;rintro e w1 ⟨A',c',rfl,g1,g2,g3⟩);have HA1:=ad (HE.out w1 g3);have HA2:=ad (HE.out _ (g3.alloc g3.size (.cells #[ae 0,ae 0,ai,aj] 27)));have HA3:=ad (HE.out _ (g3.alloc g3.size (.cells #[ae 4,ae c.n,af c.s,aj] 27)));have HG:=ad (aD g1 g3);clear g1 g2 g3))
 focus
  obtain⟨tb,htb⟩:∃tb,tb=w1.heap.size:=⟨_,rfl⟩
  obtain⟨W,hW⟩:∃W,W=w1.alloc (.cells #[ae 4,ae c.n,af c.s,aj] 27):=⟨_,rfl⟩
  have HX:Hid (W.heap[tb]?=some (.cells #[ae 4,ae c.n,af c.s,aj] 27 (0,0))/\bn W A' c.args/\aE V W):=ad (by
   rw[hW,htb]
   exact⟨az,HG.1.keep fun b hb=>aw _ _ _ hb.lt,HG.2.alloc HG.2.size _⟩)
  rw[<-hW,<-htb]
  clear hW htb HG HA1 HA2 HA3
 rotate_left
 focus
  obtain⟨tb,htb⟩:∃tb,tb=V.heap.size:=⟨_,rfl⟩
  obtain⟨W,hW⟩:∃W,W=((((w1.setCell (ak V.heap.size 0) (ae 4)).setCell (ak V.heap.size 1) (ae c.n)).setCell (ak V.heap.size 2) (af c.s)).setCell (ak V.heap.size 3) aj):=⟨_,rfl⟩
  have HX:Hid (W.heap[tb]?=some (.cells #[ae 4,ae c.n,af c.s,aj] 27 (0,0))/\bn W A' c.args/\aE V W):=ad (by
   rw[hW,htb]
   exact⟨bc HZ1.out rfl _ _ _ _,HG.1.keep fun b hb=>aM _ _ _ _ (hb.ne (t':=27) ⟨_,HZ1.out⟩ (by decide)),(((HG.2.setCell (p:=(ak V.heap.size 0)) aC _).setCell (p:=(ak V.heap.size 1)) aC _).setCell (p:=(ak V.heap.size 2)) aC _).setCell (p:=(ak V.heap.size 3)) aC _⟩)
  rw[<-hW,<-htb]
  clear hW htb HG HA1 HA4 HZ1 x0 x1 x2 x3 xf
 all_goals
  clear HLK HB1 HB2 HD HD2 HZ2 HL2 HE
  obtain⟨b0,b1,b2,b3,-⟩:=aH HX.1
  go_upto_region 18 with fail
  go_wp2_with fail
  refine(nG W 4 c.n c.s none 0 0 m (.inr rfl) HH.2.2.2.2.2.1 HMM.1 HMM.2).mono ?_
  rintro e w3 ⟨rfl,hb3⟩
  rw[HH.2.2.2.2.1]
  have hVw:=HX.2.2.trans (hb3.mono HX.2.2.size)
  have HR3:=ad (HV.1.later hVw)
  have HY:=ad (aD ((hb3.block _ (ap HX.1).1).trans HX.1) (aD (HX.2.1.keep fun b hb=>hb3.block b hb.lt) hVw))
  clear b0 b1 b2 b3 hb3 hVw HX
  go_upto_region 33 with fail
  have m0:w3.cell? (ak rb 0)=some (ah r.mb):=HR3.run.get 0
  obtain⟨⟨-,-,-,p3,-,-,p6,-⟩,pf⟩:=HR3.mach.cells
  have hsp1:¬(300:Int)<=spent:=by have:=HH.2.2.2.2.2.2.1;omega
  have hws:IntKind.i64.wrap (spent+1)=spent+1:=IntWalk.i64_in _ (by have:=HH.2.2.2.2.2.2.1;omega)
  have hnm:rb≠r.mb:=HR3.ne
  have hnm2:r.mb≠rb:=hnm.symm
  have m13:w3.cell? (ak rb 13)=some (ae r.loose):=HR3.run.get 13
  have mf:=HR3.run.fz
  have hl3:=HR3.run.lt
  have hl4:=HR3.mach.lt
  go_region
  go_upto_region 37 with fail
  have HSP:=ad HR3.spend
  have HPT:=ad (HSP.1.put (r':= {r with fr:=.pointer none,loose:=0}) 13 (ae 0) rfl rfl rfl)
  clear m0 p3 p6 pf hsp1 hws hnm hnm2 m13 mf hl3 hl4
  obtain⟨X,hX⟩:∃X,X=(w3.setCell (ak r.mb 6) (ae (spent+1))).setCell (ak rb 13) (ae 0):=⟨_,rfl⟩
  have HX:Hid (aT X rb {r with fr:=.pointer none,loose:=0} l db ob (spent+1) over/\TF [124,105] w3 X):=ad (by
   rw[hX]
   exact⟨HPT.1,(HSP.2.mono (by decide)).trans (HPT.2.mono (by decide))⟩)
  rw[<-hX]
  clear hX HPT HSP
  have hbX:aE X X.drew.drew:=aA.drew.drew
  have HCS:Hid (Calls prog 78 #[ah rb,ah fb,aU (di j c),.slice A' m c'] X.drew.drew Q):=ad (HH.2.2.2.2.2.2.2.2 _ _ _ (HX.1.later hbX) (((HV.2.1.later HY.2.2).tf HX.2 (by decide)).later hbX) ((HY.2.1.keep fun b hb=>HX.2.block hb (by decide)).keep fun b hb=>hbX.block b hb.lt) (((HV.2.2.2.mono (by decide)).later HY.2.2).trans (HX.2.later hbX)))
  have n14:X.drew.cell? (ak rb 14)=some (.func (Fn.func 78) #[] #[]):=HX.1.run.get 14
  obtain⟨t0,t1,t2,t3,-⟩:=aH ((HX.2.block (t:=27) ⟨_,HY.1⟩ (by decide)).trans HY.1)
  rw[show aU (di j c)=.agg #[ae 4,ae c.n,af c.s,aj]by unfold di;rw[if_neg (by rw[HH.2.2.1];decide),HH.2.2.1];rfl]at HCS
  have HQI:=ad HH.2.2.2.2.2.2.2.1
  clear HH HV HR3 HY HX hbX HSB
  go_region_with (refine HCS.mono ?_;intro e w9 hq;obtain⟨o,rfl⟩:=HQI.out _ _ hq;have HQQ:=ad hq;clear hq)
  all_goals
   go_wp2_with fail
   go_ret
   exact HQQ.out
end
end Go.Proofs.YtigeofkllldilaaGreatDoor
