import Derived.Test.YtigeofkllldilaaGreatDoorJM34
import Derived.Test.YtigeofkllldilaaGreatDoorJM39
set_option maxHeartbeats 32000000
set_option maxRecDepth 100000
set_option linter.unusedSectionVars false
open Go.Proofs.Tryz
namespace Go.Proofs.YtigeofkllldilaaGreatDoor
section
open Go.RowKit Go.Maps
variable[Base]
def qn (mb sb:Nat) (nm:Value) (vb:Nat) (most:Int):Array Value:=#[ah mb,ah sb,nm,.map (some vb),ae most,ae 0,aj,.pointer none,aj,ae 0,ae 0,ai,aj,ae 0,.nilFunc,.nilFunc,.nilFunc,.nilFunc,.nilFunc,.nilFunc,.nilFunc,.nilFunc,.nilFunc,.nilFunc,.nilFunc,.nilFunc,.map none]
theorem Ap (mb sb:Nat) (nm:Value) (vb:Nat) (most:Int) (bb:Nat):(eG (qn mb sb nm vb most) 14 fm).setIfInBounds 26 (.map (some bb))=Dx {mb:=mb,sb:=sb,vb:=vb,bb:=bb,nm:=nm,most:=most,ans:=0,ev:=aj,fr:=.pointer none,ch:=aj,b0:=ae 0,b1:=ae 0,b2:=ai,b3:=aj,loose:=0} :=by kernel_rfl
theorem BV (mb sb:Nat) (nm:Value) (vb:Nat) (most:Int):(eG (qn mb sb nm vb most) 14 fm)[26]?=some (.map none):=by kernel_rfl
structure ig (W:World) (rb mb db ob:Nat) (nm:Value) (most:Int) (r:RC):Prop where
 st:aT W rb r [] db ob 0 []
 store:aL r.sb 40000 W aj aj [] [] []
 vars:M6 W r.vb []
 blt:dz W r.bb rb
 mb:r.mb=mb
 nm:r.nm=nm
 most:r.most=most
 ans:r.ans=0
 fr:r.fr=.pointer none
 ch:r.ch=aj
 loose:r.loose=0
 apart:r.vb≠r.bb
def cO (w:World) (A:Option Addr) (l:List (List UInt8×Int)):Prop:=∀q x,l[q]?=some x->0<=x.2/\∃g off,A=some (ak g off)/\aR w 39 g/\w.cell? (ak g (off+q*2))=some (af x.1)/\w.cell? (ak g (off+q*2+1))=some (ae x.2)
theorem cO.keep {w w':World} {A:Option Addr} {l:List (List UInt8×Int)} (h:cO w A l) (hb:∀b,aR w 39 b->w'.heap[b]?=w.heap[b]?):cO w' A l:=fun q x hq=>by
 obtain⟨h0,g,off,e,h1,h2,h3⟩:=h q x hq
 exact⟨h0,g,off,e,h1.keep (hb g h1),(World.cell?_of_block (a:=⟨g,off+q*2,none⟩) (hb g h1)).trans h2,(World.cell?_of_block (a:=⟨g,off+q*2+1,none⟩) (hb g h1)).trans h3⟩
theorem cO.later {w w':World} {A:Option Addr} {l:List (List UInt8×Int)} (h:cO w A l) (hb:aE w w'):cO w' A l:=h.keep fun b hb'=>hb.block b hb'.lt
theorem uH (w:World) (mb db ob:Nat) (x:TV) (t:Tm) (A:Option Addr) (c:Nat) (names:List (List UInt8×Int)) (most:Int) (Q:Value->World->Prop) (hM:dF w mb db ob 0 []) (hx:aI w (aR w 27) x t) (hm:t.may=true) (hsz:t.size<=2000) (hn:cO w A names) (hnl:names.length<=1000) (hmost:1<=most) (hB:Base.b<=mb)
 (hall:∀W rb r,aE w W->w.heap.size<=rb->w.heap.size<=r.vb->ig W rb mb db ob (.slice A names.length c) most r->Calls prog 40 #[ah rb,aU x] W fun e w'=>e=am/\∃r',bS w' rb r'/\Q r'.ev w'):
 Calls prog 21 #[ah mb,aU x,.slice A names.length c,ae most] w fun e w'=>∃v,e=.returned (.tuple #[v,ae 0])/\Q v w':=by
 refine aa fun P hP=>?_
 have HP:=ad hP
 obtain⟨U,hU⟩:∃U,U=w.alloc (.cells #[ae x.k,ae x.n,af x.s,.slice x.A x.len x.cap] 27):=⟨_,rfl⟩
 have hbU:aE w U:=by rw[hU];exact aB
 have hz:U.heap[w.heap.size]?=some (.cells #[ae x.k,ae x.n,af x.s,.slice x.A x.len x.cap] 27 (0,0)):=by rw[hU];exact az
 obtain⟨z0,z1,z2,z3,-⟩:=aH hz
 have HZ:=ad hz
 have HB:=ad hbU
 have hMU:=hM.later hbU
 obtain⟨⟨c0,c1,c2,c3,c4,c5,c6,c7⟩,cf⟩:=hMU.cells
 have HM:=ad hM
 have HX:=ad (hx.keep (w':=U) (S':=aR U 27) (fun b hb=>hb.keep (hbU.block b hb.lt)) fun b hb=>hbU.block b hb.lt)
 have HT:=ad (aD hm hsz)
 have HN:=ad hn
 have HALL:=ad hall
 have hmost1:¬most<1:=by omega
 clear hP hx hm hsz hn hall hbU hz hMU hmost c2 c3 c5 c6
 unfold aU
 go_enter func21,ntmps21
 go_upto_region 1 with fail
 rw[<-hU]
 clear hU
 go_wp2_with fail
 refine(cY U x t (HX.at fun b hb=>hb.lt) (by have:=HT.2;omega) (by have:=HT.2;have:=cV t;omega)).mono ?_
 rintro e w1 ⟨rfl,hb1⟩
 rw[ew HT.1 HT.2]
 have HB1:=ad (HB.trans (hb1.mono HB.size))
 have HZ1:=ad ((hb1.block _ (ap HZ.out).1).trans HZ.out)
 obtain⟨y0,y1,y2,y3,-⟩:=aH HZ1.out
 clear z0 z1 z2 z3 c0 c1 c4 c7 cf hb1 HZ HX
 go_wp2_with fail
 go_loopw [41] (fun i wr=>∃q:Nat,i=ae (q:Nat)/\q<=names.length/\Hid (aE w wr/\wr.heap[w.heap.size]?=some (.cells #[ae x.k,ae x.n,af x.s,.slice x.A x.len x.cap] 27 (0,0)))) (fun i _=>names.length-(intOf i).toNat)
 case atStart=>exact⟨0,rfl,Nat.zero_le _,ad ⟨HB1.out,HZ1.out⟩⟩
 case round=>
  obtain⟨q,rfl,hq,HI⟩:=hrel
  clear y0 y1 y2 y3 HB1 HZ1
  by_cases hlt:q<names.length
  ·have hx:=au hlt
   generalize names[q]=b at hx
   obtain⟨h0,g,off,e1,h1,h2,h3⟩:=(HN.later HI.1) q b hx
   subst e1
   have h0':¬b.2<0:=by omega
   have hgl:=h1.lt
   have hlt1:(q:Int)<(names.length:Int):=by omega
   have hge:(0:Int)<=(q:Int):=by omega
   have hwq:IntKind.i64.wrap ((q:Int)+1)=(q:Int)+1:=IntWalk.i64_in _ (by omega)
   have HNX:Hid (∀o:Obj,aE w (wr.alloc o)/\(wr.alloc o).heap[w.heap.size]?=some (.cells #[ae x.k,ae x.n,af x.s,.slice x.A x.len x.cap] 27 (0,0))):=ad fun o=>⟨HI.1.alloc HI.1.size _,(aw _ _ _ (ap HI.2).1).trans HI.2⟩
   obtain⟨nm,nn⟩:=b
   simp only at h0 h0' h2 h3
   clear hx h0 h1
   go_wp2_with fail
   go_roundw
   case rel=>exact⟨q+1,rfl,by omega,ad (HNX.out _)⟩
   case measure=>
    simp only[intOf]
    omega
  ·obtain rfl:q=names.length:=by omega
   have hng:¬(names.length:Int)<(names.length:Int):=by omega
   have hMr:=HM.later HI.1
   obtain⟨⟨c0,c1,c2,c3,c4,c5,c6,c7⟩,cf⟩:=hMr.cells
   clear hlt c0 c1 c2 c3 c5 c6 hMr
   go_wp2_with fail
   refine(DA wr 40000 (by omega) (by omega) (by have:=HM.lt;have:=HI.1.size;omega)).mono ?_
   rintro e w2 ⟨sb,rfl,hsb,hst,hb2⟩
   have HS2:=ad (aD hsb (aD hst hb2))
   clear hsb hst hb2 c4 c7 cf
   have hmk:=tF w2
   obtain⟨W3,hW3⟩:∃W3,W3=(w2.alloc (.map #[] 0)).alloc (.cells (qn mb sb (.slice A names.length c) w2.heap.size most) 124):=⟨_,rfl⟩
   obtain⟨vb,hvb⟩:∃vb,vb=w2.heap.size:=⟨_,rfl⟩
   obtain⟨rb,hrb⟩:∃rb,rb=w2.heap.size+1:=⟨_,rfl⟩
   have hb3:aE w2 W3:=by rw[hW3];exact aB.alloc (by simp) _
   have hr3:W3.heap[rb]?=some (.cells (qn mb sb (.slice A names.length c) vb most) 124 (0,0)):=by
    rw[hW3,hrb,hvb]
    have:=heap_alloc_new (w2.alloc (.map #[] 0)) (.cells (qn mb sb (.slice A names.length c) w2.heap.size most) 124)
    rwa[World.size_alloc]at this
   have hv3:M6 W3 vb []:=by
    have h1:=M6.made w2
    rw[hW3,hvb]
    exact h1.later aB
   have H3:=ad (aD hb3 (aD hr3 (aD hv3 (show vb=w2.heap.size/\rb=w2.heap.size+1 from⟨hvb,hrb⟩))))
   go_upto_region 20 with fail
   unfold qn at hW3
   rw[<-hW3,<-hrb]
   clear hW3 hvb hrb hb3 hr3 hv3 hmk
   go_wp2_with fail
   refine(ws W3).mono ?_
   rintro e w4 ⟨rfl,hb4⟩
   have hr4:=(hb4.block _ (ap H3.2.1).1).trans H3.2.1
   have hrl:rb<w4.heap.size:=(ap hr4).1
   have hrz:∀o,w4.frozen? ⟨rb,o,none⟩=false:=fun o=>by simp[World.frozen?,hr4]
   have hrc:∀i,w4.cell? (ak rb i)=(qn mb sb (.slice A names.length c) vb most)[i]?:=fun i=>cell_of_row _ _ i _ _ _ hr4
   obtain⟨W5,hW5⟩:∃W5,W5=w4.setCells rb 14 fm:=⟨_,rfl⟩
   have hst:(storeCells ⟨rb,14,none⟩ fm).run prog w4=.ok () W5:=by
    rw[hW5]
    refine run_storeCells_cells rb 14 fm 0 w4 (fun j hj=>?_) (fun j _=>hrz _) (by decide)
    rw[hrc]
    have:(qn mb sb (.slice A names.length c) vb most).size=27:=rfl
    have hj':j<12:=hj
    rw[Array.getElem?_eq_getElem (by omega)]
    rfl
   clear hrc
   go_upto_region 21 with fail
   have h5:W5.heap[rb]?=some (.cells (eG (qn mb sb (.slice A names.length c) vb most) 14 fm) 124 (0,0)):=by rw[hW5];exact bO fm w4 14 _ hr4
   have hf5:Fr (·=rb) w4 W5:=by rw[hW5];exact bX (S:=(·=rb)) (.inl rfl) fm w4 14 (Fr.refl _ _)
   have hb24:aE w2 w4:=H3.1.trans (hb4.mono H3.1.size)
   have hb25:aE w2 W5:=hb24.trans (hf5.below hb24.size fun k hk e=>by have:=H3.2.2.2;omega)
   have hv5:M6 W5 vb []:=(H3.2.2.1.later hb4).fr hf5 (by have:=H3.2.2.2;omega)
   have H5:=ad (aD h5 (aD hb25 hv5))
   have hrl5:rb<W5.heap.size:=(ap h5).1
   rw[<-hW5]
   clear hW5 hst h5 hf5 hb24 hb25 hv5 hr4 hrl hrz hb4
   go_wp2_with fail
   refine(ux W5 (ah rb)).mono ?_
   rintro e w6 ⟨bb,rfl,hbb⟩
   have hB6:aE W5 w6/\W5.heap.size<=bb:=by
    obtain⟨L6,hN6,-⟩:=hbb
    exact⟨hN6.below,hN6.le⟩
   have hb6:=hB6.1
   have h6:=(hb6.block _ hrl5).trans H5.1
   have s26:w6.cell? (ak rb 26)=some (.map none):=(cell_of_row _ _ 26 _ _ _ h6).trans (BV ..)
   have s26f:∀o,w6.frozen? ⟨rb,o,none⟩=false:=fun o=>by simp[World.frozen?,h6]
   have hrl6:rb<w6.heap.size:=(ap h6).1
   obtain⟨X,hX⟩:∃X,X=w6.setCell (ak rb 26) (.map (some bb)):=⟨_,rfl⟩
   have hbX:aE w2 X:=by
    rw[hX]
    exact(H5.2.1.trans (hb6.mono H5.2.1.size)).setCell (p:=(ak rb 26)) (by have:=H3.2.2.2;show w2.heap.size<=rb;omega) _
   have hk:∀k,k≠rb->X.heap[k]?=w6.heap[k]?:=fun k hk=>by rw[hX];exact av _ _ _ _ hk
   obtain⟨r0,hr0⟩:∃r0:RC,r0= {mb:=mb,sb:=sb,vb:=vb,bb:=bb,nm:=.slice A names.length c,most:=most,ans:=0,ev:=aj,fr:=.pointer none,ch:=aj,b0:=ae 0,b1:=ae 0,b2:=ai,b3:=aj,loose:=0} :=⟨_,rfl⟩
   have hbwX:aE w X:=HI.1.trans ((HS2.2.2.trans (hbX.mono HS2.2.2.size)).mono HI.1.size)
   have hbbl:W5.heap.size<=bb/\bb<w6.heap.size:=⟨hB6.2,(dz.of hbb).lt⟩
   have HRN:Hid (ig X rb mb db ob (.slice A names.length c) most r0):=ad (by
    rw[hr0]
    refine⟨⟨?_,aS.nil _ _ _ _ _,HM.later hbwX,by simp,by have:=H3.2.2.2;have:=HI.1.size;have:=HS2.2.2.size;have:=HM.lt;show Base.b<=rb;omega,hB⟩,HS2.2.1.later hbX,?_,?_,rfl,rfl,rfl,rfl,rfl,rfl,rfl,?_⟩
    ·have h9:=aK h6 (.map (some bb)) (i:=26)
     rw[<-hX,Ap]at h9
     exact h9
    ·exact(H5.2.2.later hb6).keep (hk _ (by have:=H3.2.2.2;show vb≠rb;omega))
    ·exact(dz.of hbb).keep (hk _ (by show bb≠rb;omega))
    ·have:=H3.2.2.2
     show vb≠bb
     omega)
   have HZX:=ad ((hbX.block _ (Nat.lt_of_lt_of_le (ap HI.2).1 HS2.2.2.size)).trans ((HS2.2.2.block _ (ap HI.2).1).trans HI.2))
   have HCA:=ad (HALL.out X rb r0 hbwX (by have:=H3.2.2.2;have:=HI.1.size;have:=HS2.2.2.size;omega) (by rw[hr0];show w.heap.size<=vb;have:=H3.2.2.2;have:=HI.1.size;have:=HS2.2.2.size;omega) HRN.out)
   unfold aU at HCA
   clear hB6 hb6 h6 hbX hk hr0 hbwX hbbl hbb HRN HALL H5 H3 HS2 hrl5
   go_upto_region 22 with fail
   rw[<-hX]
   clear hX s26 s26f hrl6
   obtain⟨y0,y1,y2,y3,-⟩:=aH HZX.out
   go_wp2_with fail
   refine HCA.mono ?_
   rintro e w7 ⟨rfl,r',hr',hQ⟩
   have HQQ:Hid (P (.returned (.tuple #[r'.ev,ae 0])) w7):=ad (by rw[HP.out];exact⟨_,rfl,hQ⟩)
   have c6:w7.cell? (ak rb 6)=some r'.ev:=hr'.get 6
   clear hr' hQ HCA y0 y1 y2 y3
   go_wp2_with fail
   exact HQQ.out
end
section
open Go.RowKit Go.Maps
variable[Base]
theorem ta (u:World) (rb room fb i j:Nat) (kd:Int) (F:Nat) (nx:Option Addr) (hh:Int) (mk:Value) (r:RC) (l:List (Int×List UInt8)) (db ob:Nat) (spent:Int) (over:List UInt8) (cv bv:Value) (xs:List ec) (cs:List Sc) (ys:List (Nat×Int)) (c:Sc) (m:Nat) (Q:Ending->World->Prop)
 (h:aT u rb r l db ob spent over) (hs:aL r.sb room u cv bv xs cs ys) (hfr:r.fr=ah fb) (hf:lg u fb 0 (i:Nat) hh (.pointer none) (.pointer nx) mk) (hroot:bP cs i j) (hc:cs[j]?=some c) (hk:c.k=4) (ha:c.args.length=m) (hm:1<=m/\m<=3) (hkf:bI 4 c.s m=kd) (hkd:(kd=0/\F=78)\/(kd=9/\F=87)\/(kd=10/\F=88)) (hsl:c.s.length<=maxLen) (hsp:0<=spent/\spent<300)
 (hQ:∀e w,Q e w->∃o:Int,e=.returned (ae o))
 (hC:∀v A c',aT v rb {r with fr:=.pointer nx,loose:=0} l db ob (spent+1) over->aL r.sb room v cv bv xs cs ys->bn v A c.args->TF [124,105] u v->Calls prog F #[ah rb,ah fb,aU (di j c),.slice A m c'] v Q):
 Calls prog 105 #[ah rb] u Q:=by
 have c7:u.cell? (ak rb 7)=some (ah fb):=(h.run.get 7).trans (by show some r.fr=_;rw[hfr])
 have cf:=h.run.fz
 have hc':∀k,u.cell? (ak fb k)=(#[ae 0,ae (i:Nat),ae hh,.pointer none,.pointer nx,mk]:Array Value)[k]?:=fun k=>cell_of_row _ _ k _ _ _ hf
 have d0:=(hc' 0).trans rfl
 have d1:=(hc' 1).trans rfl
 have d4:=(hc' 4).trans rfl
 have hne:fb≠rb:=aR.ne (t:=243) ⟨_,hf⟩ h.run.ty (by decide)
 have hne2:rb≠fb:=hne.symm
 have hlt:=h.run.lt
 obtain⟨V,hV⟩:∃V,V=u.setCell (ak rb 7) (.pointer nx):=⟨_,rfl⟩
 have h9:=h.put (r':= {r with fr:=.pointer nx}) 7 (.pointer nx) rfl rfl rfl
 rw[<-hV]at h9
 have HV:=ad (aD h9.1 (aD (hs.tf h9.2 (by decide)) (aD ((h9.2.block (t:=243) ⟨_,hf⟩ (by decide)).trans hf) h9.2)))
 have HH:=ad (aD hroot (aD hc (aD hk (aD ha (aD hkf (aD hsl (aD hsp (aD hQ hC))))))))
 have HMM:=ad hm
 have HKD:=ad hkd
 clear hm h hs hfr hf hroot hc hk ha hkf hkd hsl hsp hQ hC hc' h9
 go_enter func105,ntmps105
 go_upto_region 5 with fail
 rw[<-hV]
 clear hV c7 cf d0 d1 d4 hlt
 have hc':∀k,V.cell? (ak fb k)=(#[ae 0,ae (i:Nat),ae hh,.pointer none,.pointer nx,mk]:Array Value)[k]?:=fun k=>cell_of_row _ _ k _ _ _ HV.2.2.1
 have d0:=(hc' 0).trans rfl
 have d1:=(hc' 1).trans rfl
 have c1:V.cell? (ak rb 1)=some (ah r.sb):=HV.1.run.get 1
 clear hc'
 go_upto_region 15 with fail
 obtain⟨sb,hsb⟩:∃sb,sb=r.sb:=⟨_,rfl⟩
 have HE:Hid (∀w,aE V w->w.cell? (ak rb 1)=some (ah sb)/\w.cell? (ak fb 1)=some (ae (i:Nat))):=ad fun w hb=>by
  refine⟨by rw[(HV.1.run.later hb).get 1,hsb];rfl,?_⟩
  have h1:lg w fb 0 (i:Nat) hh (.pointer none) (.pointer nx) mk:=(hb.block fb (lg.lt HV.2.2.1)).trans HV.2.2.1
  exact(cell_of_row _ _ 1 _ _ _ h1).trans rfl
 have HLK:Hid (∀W,aE V W->Calls prog 163 #[ah sb,ae (i:Nat)] W fun e w1=>∃A' c',e=.returned (.tuple #[.agg #[ae 4,ae c.n,af c.s,aj],.slice A' m c'])/\bn w1 A' c.args/\aE W w1/\aE V w1):=ad fun W hb=>by
  have hs:=HV.2.1.later hb
  rw[<-hsb]at hs
  refine(fo hs HH.1 HH.2.1 (by have:=HH.2.2.2.1;have:=HMM.out;omega)).mono ?_
  rintro e w1 ⟨A',c',rfl,h1,-,h3⟩
  have hk:=HH.2.2.1
  refine⟨A',c',?_,h1,h3,hb.trans (h3.mono hb.size)⟩
  rw[HH.2.2.2.1]
  unfold di
  rw[if_neg (by rw[hk];decide),hk]
  rfl
 have HB1:=ad (Below.refl V.heap.size V).drew
 have HB2:=ad ((Below.refl V.heap.size V).alloc aC (.cells #[ae 0,ae 0,ai,aj] 27)).drew
 have HD2:=ad (HE.out _ HB2.out)
 have HZ2:Hid ((V.alloc (.cells #[ae 0,ae 0,ai,aj] 27)).drew.heap[V.heap.size]?=some (.cells #[ae 0,ae 0,ai,aj] 27 (0,0))):=ad (heap_alloc_new V _)
 have HL2:Hid (V.heap.size<(V.alloc (.cells #[ae 0,ae 0,ai,aj] 27)).drew.heap.size):=ad (ap HZ2.out).1
 have HD:=ad (HE.out _ aA.drew)
 have HSB:=ad hsb
 clear hsb c1 d0 d1
 go_region_held3 (fun w=>w.cell? (ak rb 1)=some (ah sb)/\w.cell? (ak fb 1)=some (ae (i:Nat)))
  (first|(with_reducible exact HA4.out)|(with_reducible exact HA3.out)|(with_reducible exact HA2.out)|(with_reducible exact HA1.out)|(with_reducible exact HD2.out)|(with_reducible exact HD.out))
  (first|(go_at_call 163;with_reducible (refine(HLK.out _ HB2.out).mono ?_;rintro e w1 ⟨A',c',rfl,g1,g2,g3⟩);have HZ1:=ad ((g2.block V.heap.size HL2.out).trans HZ2.out);obtain⟨x0,x1,x2,x3,xf⟩:=aH HZ1.out;have HA1:=ad (HE.out w1 g3);have HA4:=ad (HE.out _ ((((g3.setCell (p:=(ak V.heap.size 0)) aC (ae 4)).setCell (p:=(ak V.heap.size 1)) aC (ae c.n)).setCell (p:=(ak V.heap.size 2)) aC (af c.s)).setCell (p:=(ak V.heap.size 3)) aC aj));have HG:=ad (aD g1 g3);clear g1 g2 g3)|(go_at_call 163;with_reducible (refine(HLK.out _ HB1.out).mono ?_;rintro e w1 ⟨A',c',rfl,g1,g2,g3⟩);have HA1:=ad (HE.out w1 g3);have HA2:=ad (HE.out _ (g3.alloc g3.size (.cells #[ae 0,ae 0,ai,aj] 27)));have HA3:=ad (HE.out _ (g3.alloc g3.size (.cells #[ae 4,ae c.n,af c.s,aj] 27)));have HG:=ad (aD g1 g3);clear g1 g2 g3))
 focus
  obtain⟨tb,htb⟩:∃tb,tb=w1.heap.size:=⟨_,rfl⟩
  obtain⟨W,hW⟩:∃W,W=w1.alloc (.cells #[ae 4,ae c.n,af c.s,aj] 27):=⟨_,rfl⟩
  have HX:Hid (W.heap[tb]?=some (.cells #[ae 4,ae c.n,af c.s,aj] 27 (0,0))/\bn W A' c.args/\aE V W):=ad (by
   rw[hW,htb]
   exact⟨az,HG.1.keep fun b hb=>aw _ _ _ hb.lt,HG.2.alloc HG.2.size _⟩)
  rw[<-hW,<-htb]
  clear hW htb HG HA1 HA2 HA3
 rotate_left
 focus
  obtain⟨tb,htb⟩:∃tb,tb=V.heap.size:=⟨_,rfl⟩
  obtain⟨W,hW⟩:∃W,W=((((w1.setCell (ak V.heap.size 0) (ae 4)).setCell (ak V.heap.size 1) (ae c.n)).setCell (ak V.heap.size 2) (af c.s)).setCell (ak V.heap.size 3) aj):=⟨_,rfl⟩
  have HX:Hid (W.heap[tb]?=some (.cells #[ae 4,ae c.n,af c.s,aj] 27 (0,0))/\bn W A' c.args/\aE V W):=ad (by
   rw[hW,htb]
   exact⟨bc HZ1.out rfl _ _ _ _,HG.1.keep fun b hb=>aM _ _ _ _ (hb.ne (t':=27) ⟨_,HZ1.out⟩ (by decide)),(((HG.2.setCell (p:=(ak V.heap.size 0)) aC _).setCell (p:=(ak V.heap.size 1)) aC _).setCell (p:=(ak V.heap.size 2)) aC _).setCell (p:=(ak V.heap.size 3)) aC _⟩)
  rw[<-hW,<-htb]
  clear hW htb HG HA1 HA4 HZ1 x0 x1 x2 x3 xf
 all_goals
  clear HLK HB1 HB2 HD HD2 HZ2 HL2 HE
  obtain⟨b0,b1,b2,b3,-⟩:=aH HX.1
  go_upto_region 18 with fail
  go_wp2_with fail
  refine(nG W 4 c.n c.s none 0 0 m (.inr rfl) HH.2.2.2.2.2.1 HMM.1 HMM.2).mono ?_
  rintro e w3 ⟨rfl,hb3⟩
  rw[HH.2.2.2.2.1]
  have hVw:=HX.2.2.trans (hb3.mono HX.2.2.size)
  have HR3:=ad (HV.1.later hVw)
  have HY:=ad (aD ((hb3.block _ (ap HX.1).1).trans HX.1) (aD (HX.2.1.keep fun b hb=>hb3.block b hb.lt) hVw))
  clear b0 b1 b2 b3 hb3 hVw HX
  rcases HKD.out with⟨rfl,rfl⟩|⟨rfl,rfl⟩|⟨rfl,rfl⟩
  all_goals
   go_upto_region 33 with fail
   have m0:w3.cell? (ak rb 0)=some (ah r.mb):=HR3.run.get 0
   obtain⟨⟨-,-,-,p3,-,-,p6,-⟩,pf⟩:=HR3.mach.cells
   have hsp1:¬(300:Int)<=spent:=by have:=HH.2.2.2.2.2.2.1;omega
   have hws:IntKind.i64.wrap (spent+1)=spent+1:=IntWalk.i64_in _ (by have:=HH.2.2.2.2.2.2.1;omega)
   have hnm:rb≠r.mb:=HR3.ne
   have hnm2:r.mb≠rb:=hnm.symm
   have m13:w3.cell? (ak rb 13)=some (ae r.loose):=HR3.run.get 13
   have mf:=HR3.run.fz
   have hl3:=HR3.run.lt
   have hl4:=HR3.mach.lt
   go_region
   go_upto_region 37 with fail
   have HSP:=ad HR3.spend
   have HPT:=ad (HSP.1.put (r':= {r with fr:=.pointer nx,loose:=0}) 13 (ae 0) rfl rfl rfl)
   clear m0 p3 p6 pf hsp1 hws hnm hnm2 m13 mf hl3 hl4
   obtain⟨X,hX⟩:∃X,X=(w3.setCell (ak r.mb 6) (ae (spent+1))).setCell (ak rb 13) (ae 0):=⟨_,rfl⟩
   have HX:Hid (aT X rb {r with fr:=.pointer nx,loose:=0} l db ob (spent+1) over/\TF [124,105] w3 X):=ad (by
    rw[hX]
    exact⟨HPT.1,(HSP.2.mono (by decide)).trans (HPT.2.mono (by decide))⟩)
   rw[<-hX]
   clear hX HPT HSP
   have hbX:aE X X.drew.drew:=aA.drew.drew
   have HCS:Hid (Calls prog _ #[ah rb,ah fb,aU (di j c),.slice A' m c'] X.drew.drew Q):=ad (HH.2.2.2.2.2.2.2.2 _ _ _ (HX.1.later hbX) (((HV.2.1.later HY.2.2).tf HX.2 (by decide)).later hbX) ((HY.2.1.keep fun b hb=>HX.2.block hb (by decide)).keep fun b hb=>hbX.block b hb.lt) (((HV.2.2.2.mono (by decide)).later HY.2.2).trans (HX.2.later hbX)))
   have n14:X.drew.cell? (ak rb 14)=some (.func (Fn.func 78) #[] #[]):=HX.1.run.get 14
   have n23:X.drew.cell? (ak rb 23)=some (.func (Fn.func 87) #[] #[]):=HX.1.run.get 23
   have n24:X.drew.cell? (ak rb 24)=some (.func (Fn.func 88) #[] #[]):=HX.1.run.get 24
   obtain⟨t0,t1,t2,t3,-⟩:=aH ((HX.2.block (t:=27) ⟨_,HY.1⟩ (by decide)).trans HY.1)
   rw[show aU (di j c)=.agg #[ae 4,ae c.n,af c.s,aj]by unfold di;rw[if_neg (by rw[HH.2.2.1];decide),HH.2.2.1];rfl]at HCS
   have HQI:=ad HH.2.2.2.2.2.2.2.1
   clear HH HV HR3 HY HX hbX HSB
   go_region_with (refine HCS.mono ?_;intro e w9 hq;obtain⟨o,rfl⟩:=HQI.out _ _ hq;have HQQ:=ad hq;clear hq)
   all_goals
    go_wp2_with fail
    go_ret
    exact HQQ.out
end
section
open Go.RowKit Go.Maps
variable[Base]
theorem wH (w:World) (m:Int) (s:List UInt8) (A:Option Addr) (c d:Nat) (hs:s.length<=maxLen):
 Calls prog 71 #[.agg #[ae 3,ae m,af s,.slice A c d],ae 0] w fun e w'=>e=.returned (ae (bI 3 s 0))/\aE w w':=by
 obtain⟨W,hW⟩:∃W,W=w.alloc (.cells #[ae 3,ae 0,af s,aj] 27):=⟨_,rfl⟩
 have hb:aE w W:=by rw[hW];exact aB
 have hz:W.heap[w.heap.size]?=some (.cells #[ae 3,ae 0,af s,aj] 27 (0,0)):=by rw[hW];exact az
 obtain⟨b0,b1,b2,b3,bf⟩:=aH hz
 have HB:=ad hb
 have HS:=ad hs
 clear hb hz hs
 go_enter func71,ntmps71
 go_upto_region 8 with fail
 rw[<-hW]
 clear hW
 go_wp2_with fail
 refine(kg W ⟨3,0,s,none,0,0⟩ HS.out (by show((0:Nat):Int)<=9223372036854775807;decide)).mono ?_
 rintro e w2 ⟨rfl,h2⟩
 have H2:=ad (HB.trans (h2.mono HB.size))
 clear h2 b0 b1 b2 b3 bf
 go_wp2_with fail
 go_ret
 exact⟨rfl,H2.out⟩
theorem wO (u:World) (rb room fb i j:Nat) (nx:Option Addr) (hh:Int) (mk:Value) (r:RC) (l:List (Int×List UInt8)) (db ob:Nat) (spent:Int) (over:List UInt8) (cv bv:Value) (xs:List ec) (cs:List Sc) (ys:List (Nat×Int)) (c:Sc)
 (h:aT u rb r l db ob spent over) (hs:aL r.sb room u cv bv xs cs ys) (hfr:r.fr=ah fb) (hf:lg u fb 0 (i:Nat) hh (.pointer none) (.pointer nx) mk) (hroot:bP cs i j) (hc:cs[j]?=some c) (hk:c.k=3) (ha:c.args=[]) (hkf:bI 3 c.s 0=1) (hsl:c.s.length<=maxLen):
 Calls prog 105 #[ah rb] u fun e u'=>e=.returned (ae 0)/\aT u' rb {r with fr:=.pointer nx} l db ob spent over/\TF [124] u u':=by
 refine aa fun P hP=>?_
 have HP:=ad hP
 have c7:u.cell? (ak rb 7)=some (ah fb):=(h.run.get 7).trans (by show some r.fr=_;rw[hfr])
 have cf:=h.run.fz
 have hc':∀k,u.cell? (ak fb k)=(#[ae 0,ae (i:Nat),ae hh,.pointer none,.pointer nx,mk]:Array Value)[k]?:=fun k=>cell_of_row _ _ k _ _ _ hf
 have d0:=(hc' 0).trans rfl
 have d1:=(hc' 1).trans rfl
 have d4:=(hc' 4).trans rfl
 have hne:fb≠rb:=aR.ne (t:=243) ⟨_,hf⟩ h.run.ty (by decide)
 have hne2:rb≠fb:=hne.symm
 have hlt:=h.run.lt
 obtain⟨V,hV⟩:∃V,V=u.setCell (ak rb 7) (.pointer nx):=⟨_,rfl⟩
 have h9:=h.put (r':= {r with fr:=.pointer nx}) 7 (.pointer nx) rfl rfl rfl
 rw[<-hV]at h9
 have HV:=ad (aD h9.1 (aD (hs.tf h9.2 (by decide)) (aD ((h9.2.block (t:=243) ⟨_,hf⟩ (by decide)).trans hf) h9.2)))
 have HH:=ad (aD hroot (aD hc (aD hk (aD ha (aD hkf hsl)))))
 clear hP h hs hfr hf hroot hc hk ha hkf hsl hc' h9
 go_enter func105,ntmps105
 go_upto_region 5 with fail
 rw[<-hV]
 clear hV c7 cf d0 d1 d4 hlt
 have hc':∀k,V.cell? (ak fb k)=(#[ae 0,ae (i:Nat),ae hh,.pointer none,.pointer nx,mk]:Array Value)[k]?:=fun k=>cell_of_row _ _ k _ _ _ HV.2.2.1
 have d0:=(hc' 0).trans rfl
 have d1:=(hc' 1).trans rfl
 have c1:V.cell? (ak rb 1)=some (ah r.sb):=HV.1.run.get 1
 clear hc'
 go_upto_region 15 with fail
 obtain⟨sb,hsb⟩:∃sb,sb=r.sb:=⟨_,rfl⟩
 have HE:Hid (∀w,aE V w->w.cell? (ak rb 1)=some (ah sb)/\w.cell? (ak fb 1)=some (ae (i:Nat))):=ad fun w hb=>by
  refine⟨by rw[(HV.1.run.later hb).get 1,hsb];rfl,?_⟩
  have h1:lg w fb 0 (i:Nat) hh (.pointer none) (.pointer nx) mk:=(hb.block fb (lg.lt HV.2.2.1)).trans HV.2.2.1
  exact(cell_of_row _ _ 1 _ _ _ h1).trans rfl
 have HLK:Hid (∀W,aE V W->Calls prog 163 #[ah sb,ae (i:Nat)] W fun e w1=>∃A' c',e=.returned (.tuple #[.agg #[ae 3,ae c.n,af c.s,aj],.slice A' 0 c'])/\bn w1 A' c.args/\aE W w1/\aE V w1):=ad fun W hb=>by
  have hs:=HV.2.1.later hb
  rw[<-hsb]at hs
  refine(fo hs HH.1 HH.2.1 (by rw[HH.2.2.2.1];decide)).mono ?_
  rintro e w1 ⟨A',c',rfl,h1,-,h3⟩
  have hk:=HH.2.2.1
  refine⟨A',c',?_,h1,h3,hb.trans (h3.mono hb.size)⟩
  rw[HH.2.2.2.1]
  unfold di
  rw[if_neg (by rw[hk];decide),hk]
  rfl
 have HB1:=ad (Below.refl V.heap.size V).drew
 have HB2:=ad ((Below.refl V.heap.size V).alloc aC (.cells #[ae 0,ae 0,ai,aj] 27)).drew
 have HD2:=ad (HE.out _ HB2.out)
 have HZ2:Hid ((V.alloc (.cells #[ae 0,ae 0,ai,aj] 27)).drew.heap[V.heap.size]?=some (.cells #[ae 0,ae 0,ai,aj] 27 (0,0))):=ad (heap_alloc_new V _)
 have HL2:Hid (V.heap.size<(V.alloc (.cells #[ae 0,ae 0,ai,aj] 27)).drew.heap.size):=ad (ap HZ2.out).1
 have HD:=ad (HE.out _ aA.drew)
 have HSB:=ad hsb
 clear hsb c1 d0 d1
 go_region_held3 (fun w=>w.cell? (ak rb 1)=some (ah sb)/\w.cell? (ak fb 1)=some (ae (i:Nat)))
  (first|(with_reducible exact HA4.out)|(with_reducible exact HA3.out)|(with_reducible exact HA2.out)|(with_reducible exact HA1.out)|(with_reducible exact HD2.out)|(with_reducible exact HD.out))
  (first|(go_at_call 163;with_reducible (refine(HLK.out _ HB2.out).mono ?_;rintro e w1 ⟨A',c',rfl,g1,g2,g3⟩);have HZ1:=ad ((g2.block V.heap.size HL2.out).trans HZ2.out);obtain⟨x0,x1,x2,x3,xf⟩:=aH HZ1.out;have HA1:=ad (HE.out w1 g3);have HA4:=ad (HE.out _ ((((g3.setCell (p:=(ak V.heap.size 0)) aC (ae 3)).setCell (p:=(ak V.heap.size 1)) aC (ae c.n)).setCell (p:=(ak V.heap.size 2)) aC (af c.s)).setCell (p:=(ak V.heap.size 3)) aC aj));have HG:=ad (aD g1 g3);clear g1 g2 g3)|(go_at_call 163;with_reducible (refine(HLK.out _ HB1.out).mono ?_;rintro e w1 ⟨A',c',rfl,g1,g2,g3⟩);have HA1:=ad (HE.out w1 g3);have HA2:=ad (HE.out _ (g3.alloc g3.size (.cells #[ae 0,ae 0,ai,aj] 27)));have HA3:=ad (HE.out _ (g3.alloc g3.size (.cells #[ae 3,ae c.n,af c.s,aj] 27)));have HG:=ad (aD g1 g3);clear g1 g2 g3))
 focus
  obtain⟨tb,htb⟩:∃tb,tb=w1.heap.size:=⟨_,rfl⟩
  obtain⟨W,hW⟩:∃W,W=w1.alloc (.cells #[ae 3,ae c.n,af c.s,aj] 27):=⟨_,rfl⟩
  have HX:Hid (W.heap[tb]?=some (.cells #[ae 3,ae c.n,af c.s,aj] 27 (0,0))/\bn W A' c.args/\aE V W):=ad (by
   rw[hW,htb]
   exact⟨az,HG.1.keep fun b hb=>aw _ _ _ hb.lt,HG.2.alloc HG.2.size _⟩)
  rw[<-hW,<-htb]
  clear hW htb HG HA1 HA2 HA3
 rotate_left
 focus
  obtain⟨tb,htb⟩:∃tb,tb=V.heap.size:=⟨_,rfl⟩
  obtain⟨W,hW⟩:∃W,W=((((w1.setCell (ak V.heap.size 0) (ae 3)).setCell (ak V.heap.size 1) (ae c.n)).setCell (ak V.heap.size 2) (af c.s)).setCell (ak V.heap.size 3) aj):=⟨_,rfl⟩
  have HX:Hid (W.heap[tb]?=some (.cells #[ae 3,ae c.n,af c.s,aj] 27 (0,0))/\bn W A' c.args/\aE V W):=ad (by
   rw[hW,htb]
   exact⟨bc HZ1.out rfl _ _ _ _,HG.1.keep fun b hb=>aM _ _ _ _ (hb.ne (t':=27) ⟨_,HZ1.out⟩ (by decide)),(((HG.2.setCell (p:=(ak V.heap.size 0)) aC _).setCell (p:=(ak V.heap.size 1)) aC _).setCell (p:=(ak V.heap.size 2)) aC _).setCell (p:=(ak V.heap.size 3)) aC _⟩)
  rw[<-hW,<-htb]
  clear hW htb HG HA1 HA4 HZ1 x0 x1 x2 x3 xf
 all_goals
  clear HLK HB1 HB2 HD HD2 HZ2 HL2 HE
  obtain⟨b0,b1,b2,b3,-⟩:=aH HX.1
  go_upto_region 18 with fail
  go_wp2_with fail
  refine(wH W c.n c.s none 0 0 HH.2.2.2.2.2).mono ?_
  rintro e w3 ⟨rfl,hb3⟩
  rw[HH.2.2.2.2.1]
  have hVw:=HX.2.2.trans (hb3.mono HX.2.2.size)
  have HR3:=ad (HV.1.later hVw)
  have HY:=ad (aD ((hb3.block _ (ap HX.1).1).trans HX.1) hVw)
  clear b0 b1 b2 b3 hb3 hVw HX
  go_upto_region 37 with fail
  have hbX:aE w3 w3.drew:=aA.drew
  have n15:w3.cell? (ak rb 15)=some (.func (Fn.func 79) #[] #[]):=HR3.run.get 15
  obtain⟨t0,t1,t2,t3,-⟩:=aH HY.1
  have HCS:Hid (Calls prog 79 #[ah rb,ah fb,.agg #[ae 3,ae c.n,af c.s,aj],.slice A' 0 c'] w3.drew fun e w9=>e=.returned (ae 0)/\P e w9):=ad (by
   refine(vU w3.drew _ _ _ ⟨3,c.n,c.s,none,0,0⟩).mono ?_
   rintro e w9 ⟨rfl,k1⟩
   have hb9:=hbX.trans (k1.mono hbX.size)
   refine⟨rfl,?_⟩
   rw[HP.out]
   exact⟨rfl,HR3.later hb9,(HV.2.2.2.later HY.2).later (hb9)⟩)
  clear HH HV HR3 HY hbX HSB
  go_region_with (refine HCS.mono ?_;rintro e w9 ⟨rfl,hq⟩;have HQQ:=ad hq;clear hq)
  all_goals
   go_wp2_with fail
   go_ret
   exact HQQ.out
end
end Go.Proofs.YtigeofkllldilaaGreatDoor
