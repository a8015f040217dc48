import Derived.Test.YtigeofkllldilaaGreatDoorJM40
import Derived.Test.YtigeofkllldilaaGreatDoorJM38
import Derived.Test.YtigeofkllldilaaGreatDoorJM46
set_option maxHeartbeats 32000000
set_option maxRecDepth 100000
set_option linter.unusedSectionVars false
open Go.Proofs.Tryz
namespace Go.Proofs.YtigeofkllldilaaGreatDoor
section
open Go.RowKit Go.Maps
variable[Base]
def fN:Tm:=.mk 3 0 [116,114,117,101] []
structure xr (u:World) (rb db ob b3:Nat) (r:RC) (l:List (Int×List UInt8)) (spent:Int) (over:List UInt8) (z:TV) (t:Tm) (w:World):Prop where
 run:aT w rb r l db ob spent over
 box:w.heap[b3]?=some (.cells #[ae z.k,ae z.n,af z.s,.slice z.A z.len z.cap] 27 (0,0))
 tz:aI w (aR w 27) z t
 tf:TF iN u w
section
variable {u w w':World} {rb db ob b3:Nat} {r r':RC} {l l':List (Int×List UInt8)} {spent:Int} {over:List UInt8} {z:TV} {t:Tm}
theorem xr.next (h:xr u rb db ob b3 r l spent over z t w) (hr:aT w' rb r' l' db ob spent over) (hf:TF iN w w'):xr u rb db ob b3 r' l' spent over z t w':=
 ⟨hr,(hf.block ⟨_,h.box⟩ (by decide)).trans h.box,hf.term h.tz (fun _ h=>h) (fun _ _ h=>h) (by decide),h.tf.trans hf⟩
theorem xr.keep {tys:List TypeId} (h:xr u rb db ob b3 r l spent over z t w) (hf:TF tys w w') (h1:∀t∈rI,t∉tys) (h2:∀t∈tys,t∈iN):xr u rb db ob b3 r l spent over z t w':=h.next (h.run.keep hf h1) (hf.mono h2)
end
omit[Base]in
theorem yB {P:Program} (b:Nat) (t e:TypeId) (n:Nat) (ht:P.underlying t=some (.pointer e)) (hs:∀w,(sizeOf e).run P w=.ok (n+1) w) (w:World):(binOp .neq t (ah b) (ah b)).run P w=.ok (.bool false) w:=by
 have h:∀d,(Op.equalIn (d+1) t (ah b) (ah b)).run P w=.ok true w:=fun d=>by simp[Op.equalIn,run_underlying ht,hs,sameAddr]
 simp only[binOp]
 simp[Op.equal,Op.maxDepth,h 9999]
omit[Base]in
theorem Ei {b:Tm} (hb:b.may=true) (cs:List Sc):(aV b ⟨cs,[]⟩).1<(aV b ⟨cs,[]⟩).2.cs.length:=by
 obtain⟨T',-,-,h,-⟩:=jX b ⟨cs,[]⟩ (fun _=>b) ⟨fun x hx=>(by cases hx),fun x hx=>(by cases hx)⟩ hb
 exact h
structure DX (rb hb fb sb c room:Nat) (ch:Value) (A:Option Addr) (cs:List Sc) (I:List Nat) (w:World):Prop where
 chs:iU w rb ch [hb]
 cc:eI w hb A c (cs.length:Nat) I
 fr:lg w fb 2 0 0 (ah hb) (.pointer none) (ah fb)
 st:∃cv bv xs,aL sb room w cv bv xs cs []
def ET (rb db ob room:Nat) (r:RC) (l:List (Int×List UInt8)) (spent:Int) (over txt:List UInt8) (i3:Nat) (F:List Sc->Prop) (N:Prop) (u:World) (e:Ending) (u':World):Prop:=
 TF iN u u'/\((e=.returned (ae 0)/\∃C c gb cv bv xs csF ys,aT u' rb {r with ch:=.slice C 0 c,fr:=ah gb} l db ob spent over/\lg u' gb 0 (i3:Nat) 0 (.pointer none) (.pointer none) (.pointer none)/\aL r.sb room u' cv bv xs csF ys/\F csF)∨
  (N/\e=.returned (ae 3)/\∃C c v,aT u' rb {r with ch:=.slice C 0 c,ev:=v} (l++[(3,txt)]) db ob spent over))
def Fe (u:World) (rb db ob b3 hb fb c room:Nat) (r:RC) (l:List (Int×List UInt8)) (spent:Int) (over:List UInt8) (z:TV) (t:Tm) (A:Option Addr) (cs:List Sc) (I:List Nat) (N:Prop) (gk:Nat) (mk:Value) (w:World):Prop:=
 (gk=0/\N/\∃C c,xr u rb db ob b3 {r with ch:=.slice C 0 c} l spent over z t w)∨
 (gk=1/\mk=ah fb/\r.fr=ah fb/\xr u rb db ob b3 r l spent over z t w/\DX rb hb fb r.sb c room r.ch A cs I w)
theorem pj {u:World} {rb db ob hb fb c room i1 i2 i3:Nat} {r:RC} {l:List (Int×List UInt8)} {spent:Int} {over txt:List UInt8} {A:Option Addr} {cs:List Sc} {F:List Sc->Prop} {N:Prop} (y:TV) (t:Tm)
 (h:aT u rb r l db ob spent over) (hb9:r.b0=ae y.k/\r.b1=ae y.n/\r.b2=af y.s/\r.b3=.slice y.A y.len y.cap) (hy:aI u (aR u 27) y t) (hm:t.may=true) (hf:t.fits=true) (hsz:t.size<=2000) (hl:l.length+1<=100000)
 (hPut:∀w z,TF iN u w->aI w (aR w 27) z (bA t)->Calls prog 16 #[aU z,ae 1,ah ob] w fun e w'=>e=.returned (.tuple #[af txt,ae 0])/\aE w w')
 (hst:(r.fr=.pointer none/\(∃C c,r.ch=.slice C 0 c)/\N)\/(r.fr=ah fb/\DX rb hb fb r.sb c room r.ch A cs [i1,i2,i3] u))
 (hU:r.fr=ah fb->0<cs.length/\i2<cs.length/\cs.length+t.size<=room/\∀ok z csF bsF,l6 false (aV (bA t) ⟨cs,[]⟩).2.cs [] [(i2,(aV (bA t) ⟨cs,[]⟩).1)] 0 (ok,z) csF bsF->z=0/\(ok=true->F csF/\ic csF i3 fN/\cj csF)/\(ok=false->N)):
 Calls prog 107 #[ah rb] u (ET rb db ob room r l spent over txt i3 F N u):=by
 refine aa fun P hP=>?_
 have HP:=ad hP
 obtain⟨k,n,s,yA,yl,yc⟩:=y
 simp only at hb9
 obtain⟨e0,e1,e2,e3⟩:=hb9
 have hc9:∀w,bS w rb r->w.cell? (ak rb 9)=some (ae k)/\w.cell? (ak rb 10)=some (ae n)/\w.cell? (ak rb 11)=some (af s)/\w.cell? (ak rb 12)=some (.slice yA yl yc):=fun w hw=>
  ⟨(hw.get 9).trans (by show some r.b0=_;rw[e0]),(hw.get 10).trans (by show some r.b1=_;rw[e1]),(hw.get 11).trans (by show some r.b2=_;rw[e2]),(hw.get 12).trans (by show some r.b3=_;rw[e3])⟩
 obtain⟨c9,c10,c11,c12⟩:=hc9 u h.run
 have HC:=ad hc9
 have HH:=ad (aD h (aD hy (aD hm (aD hf (aD hsz hl)))))
 have HPUT:=ad hPut
 have HST:=ad hst
 have HU:=ad hU
 have hlt:=h.run.lt
 clear hP e0 e1 e2 e3 hc9 h hy hm hf hsz hl hPut hst hU
 go_enter func107,ntmps107
 go_wp2_with fail
 refine(cY u ⟨k,n,s,yA,yl,yc⟩ t (HH.2.1.at fun b hb=>hb.lt) (by have:=HH.2.2.2.2.1;omega) (by have:=HH.2.2.2.2.1;have:=cV t;omega)).mono ?_
 rintro e w1 ⟨rfl,hb1⟩
 rw[ew HH.2.2.1 HH.2.2.2.2.1]
 have HB1:=ad hb1
 clear c9 c10 c11 c12 hb1
 obtain⟨c9,c10,c11,c12⟩:=HC.out w1 (HH.1.run.later HB1.out)
 go_upto_region 3 with fail
 go_wp2_with fail
 refine(qE w1 u.heap.size ⟨k,n,s,yA,yl,yc⟩ t ((HH.2.1.at fun b hb=>hb.lt).blw HB1.out) HH.2.2.1 HH.2.2.2.1 (by have:=HH.2.2.2.2.1;omega) HB1.size).mono ?_
 rintro e w2 ⟨⟨zk,zn,zs,zA,zl,zc⟩,rfl,hz,hb2⟩
 rw[(qr t [] HH.2.2.1).1]at hz
 obtain⟨b3,hb3⟩:∃b3,b3=w2.heap.size:=⟨_,rfl⟩
 obtain⟨W,hW⟩:∃W,W=w2.alloc (.cells #[ae zk,ae zn,af zs,.slice zA zl zc] 27):=⟨_,rfl⟩
 have hbW:aE w2 W:=by rw[hW];exact aB
 have hbuW:=HB1.trans ((hb2.trans (hbW.mono hb2.size)).mono HB1.size)
 have HW:Hid (xr u rb db ob b3 r l spent over ⟨zk,zn,zs,zA,zl,zc⟩ (bA t) W/\aE u W):=ad ⟨⟨HH.1.later hbuW,by rw[hW,hb3];exact az,hz.keep (fun b hb=>hb.2.keep (hbW.block b hb.2.lt)) fun b hb=>hbW.block b hb.2.lt,TF.of_below _ hbuW⟩,hbuW⟩
 clear c9 c10 c11 c12 hz hb2 hbW hbuW HB1
 unfold aU
 go_upto_region 4 with fail
 rw[<-hb3,<-hW]
 clear hW hb3
 rcases HST.out with⟨hfr,hch,hN⟩|⟨hfr,hcw⟩
 case' inl=>
  have HS:Hid (∃g0,Fe u rb db ob b3 hb fb c room r l spent over ⟨zk,zn,zs,zA,zl,zc⟩ (bA t) A cs [i1,i2,i3] N g0 (.pointer none) W):=ad (by
   obtain⟨C,cc,hch⟩:=hch
   refine⟨0,.inl ⟨rfl,hN,C,cc,?_⟩⟩
   rw[<-hch]
   exact HW.1)
  have c7:W.cell? (ak rb 7)=some (.pointer none):=(HW.1.run.run.get 7).trans (by show some r.fr=_;rw[hfr])
  clear hfr hch hN HW
 case' inr=>
  have HS:Hid (∃g0,Fe u rb db ob b3 hb fb c room r l spent over ⟨zk,zn,zs,zA,zl,zc⟩ (bA t) A cs [i1,i2,i3] N g0 (ah fb) W):=ad (by
   refine⟨1,.inr ⟨rfl,rfl,hfr,HW.1,?_⟩⟩
   obtain⟨cv,bv,xs,hs⟩:=hcw.st
   exact⟨hcw.chs.later HW.2,hcw.cc.later HW.2,(HW.2.block fb hcw.fr.lt).trans hcw.fr,⟨cv,bv,xs,hs.later HW.2⟩⟩)
  have c7:W.cell? (ak rb 7)=some (ah fb):=(HW.1.run.run.get 7).trans (by show some r.fr=_;rw[hfr])
  obtain⟨-,-,-,-,-,f5⟩:=lg.cells (w:=W) ((HW.2.block fb hcw.fr.lt).trans hcw.fr)
  clear hfr hcw HW
 all_goals
  go_upto_region 7 with fail
  obtain⟨g0,hS0⟩:=HS.out
  have HS0:=ad hS0
  clear hS0 HS c7 HC HST
  go_loopg [2,4] g0 (fun gk rv mk wr=>rv=ae 0/\Hid (Fe u rb db ob b3 hb fb c room r l spent over ⟨zk,zn,zs,zA,zl,zc⟩ (bA t) A cs [i1,i2,i3] N gk mk wr))
  case atStart=>exact⟨rfl,HS0⟩
  case round=>
   obtain⟨rfl,HI⟩:=hrel
   clear HS0
   rcases HI.out with⟨rfl,hN,C,c',hw⟩|⟨rfl,rfl,hfr,hw,hcw⟩
   ·have HN:=ad hN
    have HWR:=ad hw
    have c8:wr.cell? (ak rb 8)=some (.slice C 0 c'):=hw.run.run.get 8
    obtain⟨mb,hmb⟩:∃mb,mb=r.mb:=⟨_,rfl⟩
    have HSV:Hid (∀w,aE wr w->w.cell? (ak rb 0)=some (ah mb)/\w.cell? (ak mb 1)=some (ah ob)/\w.cell? (ak b3 0)=some (ae zk)/\w.cell? (ak b3 1)=some (ae zn)/\w.cell? (ak b3 2)=some (af zs)/\w.cell? (ak b3 3)=some (.slice zA zl zc)):=ad fun w hb=>by
     have hr:=HWR.run.later hb
     obtain⟨b0,b1,b2,b3',-⟩:=aH ((hb.block _ (ap HWR.box).1).trans HWR.box)
     have h1:w.cell? (ak r.mb 1)=some (ah ob):=hr.mach.cells.1.2.1
     exact⟨(hr.run.get 0).trans (by rw[hmb];rfl),by rw[hmb];exact h1,b0,b1,b2,b3'⟩
    have hd:=(Below.refl wr.heap.size wr).drew
    have HSD:=ad (HSV.out wr.drew hd)
    have HPW:Hid (Calls prog 16 #[.agg #[ae zk,ae zn,af zs,.slice zA zl zc],ae 1,ah ob] wr.drew fun e w'=>e=.returned (.tuple #[af txt,ae 0])/\aE wr w'):=ad (by
     refine(HPUT.out wr.drew ⟨zk,zn,zs,zA,zl,zc⟩ (HWR.tf.later hd) (HWR.tz.move fun b h=>⟨h.keep (hd.block b h.lt),hd.block b h.lt⟩)).mono ?_
     rintro e w' ⟨rfl,k1⟩
     exact⟨rfl,hd.trans k1⟩)
    have hls:=HWR.run.run.lt
    clear hd hN hw hmb HI HPUT HU
    go_wp2_with fail
    clear c8
    go_region_held3 (fun w=>w.cell? (ak rb 0)=some (ah mb)/\w.cell? (ak mb 1)=some (ah ob)/\w.cell? (ak b3 0)=some (ae zk)/\w.cell? (ak b3 1)=some (ae zn)/\w.cell? (ak b3 2)=some (af zs)/\w.cell? (ak b3 3)=some (.slice zA zl zc))
     (first|(with_reducible exact HS1.out)|(with_reducible exact HSD.out))
     (first|(go_at_call 16;with_reducible refine HPW.out.mono ?_;rintro e w3 ⟨rfl,k1⟩;have HS1:=ad (HSV.out w3 k1);have HK:=ad k1;clear k1))
    clear HPW HSV HSD HS1
    go_wp2_with fail
    have hr3:=HWR.run.later HK.out
    refine(gJ w3 rb {r with ch:=.slice C 0 c'} l 3 txt hr3.run hr3.ev hr3.few.1 hr3.few.2.1).mono ?_
    rintro e w4 ⟨rfl,v,k1,k2,k3⟩
    have HQ:Hid (P (.returned (ae 3)) w4):=ad (by
     rw[HP.out]
     exact⟨(HWR.tf.later HK.out).trans (k3.mono (by decide)),.inr ⟨HN.out,rfl,C,c',v,⟨k1,k2,(k3.block ⟨_,hr3.mach⟩ (by decide)).trans hr3.mach,⟨by simpa using HH.2.2.2.2.2,hr3.few.2⟩⟩⟩⟩)
    clear k1 k2 k3 hr3
    go_wp2_with fail
    exact HQ.out
   ·have HF:=ad hfr
    have HWR:=ad (aD hw hcw)
    obtain⟨sb,hsb⟩:∃sb,sb=r.sb:=⟨_,rfl⟩
    have HSB:=ad hsb
    have hne:[hb]≠[]:=by simp
    obtain⟨g,cap,e1,-,-,-,-⟩:=hcw.chs.cells (enc:=qy) (fun _=>rfl) hne
    have c8:wr.cell? (ak rb 8)=some (al g 1 cap):=(hw.run.run.get 8).trans (by show some r.ch=_;rw[e1];rfl)
    clear hfr hw hcw hne e1 HI hsb
    go_wp2_with fail
    refine(uM HWR.1.run HWR.2.chs).mono ?_
    rintro e w3 ⟨rfl,⟨C,c',k1⟩,k2⟩
    have H3:=ad (aD (HWR.1.next k1 (k2.mono (by decide))) (aD (HWR.2.cc.tf k2 (by decide) (by decide)) (aD ((k2.block (t:=243) ⟨_,HWR.2.fr⟩ (by decide)).trans HWR.2.fr) (show∃cv bv xs,aL r.sb room w3 cv bv xs cs []from by
     obtain⟨cv,bv,xs,hs⟩:=HWR.2.st
     exact⟨cv,bv,xs,hs.tf k2 (by decide)⟩))))
    clear k1 k2 c8
    go_wp2_with fail
    obtain⟨cv3,bv3,xs3,hs3⟩:=H3.2.2.2
    refine(vy H3.1.run.run hs3 H3.2.1 (HU.out HF.out).1 aC).mono ?_
    rintro e w4 ⟨rfl,k1,k2⟩
    have H4:=ad (aD (H3.1.keep k1 (by decide) (by decide)) (aD (H3.2.1.tf k1 (by decide) (by decide)) (aD ((k1.block (t:=243) ⟨_,H3.2.2.1⟩ (by decide)).trans H3.2.2.1) (k2 rfl rfl))))
    clear k1 k2 hs3 H3
    have f0:w4.cell? (ak hb 0)=some (ae 3):=H4.2.1.get 0
    obtain⟨-,-,-,q3,q4,-⟩:=lg.cells H4.2.2.1
    have HSV:Hid (∀w,xr u rb db ob b3 {r with ch:=.slice C 0 c'} l spent over ⟨zk,zn,zs,zA,zl,zc⟩ (bA t) w->w.cell? (ak rb 1)=some (ah sb)/\w.cell? (ak b3 0)=some (ae zk)/\w.cell? (ak b3 1)=some (ae zn)/\w.cell? (ak b3 2)=some (af zs)/\w.cell? (ak b3 3)=some (.slice zA zl zc)):=ad fun w hw=>by
     obtain⟨b0,b1,b2,b3',-⟩:=aH hw.box
     exact⟨(hw.run.run.get 1).trans (by rw[HSB.out];rfl),b0,b1,b2,b3'⟩
    have hd:=(Below.refl w4.heap.size w4).drew
    have hW4:=H4.1.keep (TF.of_below [] hd) (fun _ _ h=>by cases h) (fun _ h=>by cases h)
    have HSD:=ad (HSV.out w4.drew hW4)
    have HPU:Hid (Calls prog 196 #[ah sb,.agg #[ae zk,ae zn,af zs,.slice zA zl zc],.map none] w4.drew fun e w5=>∃q:Nat,e=.returned (.tuple #[ae (q:Nat),ae 0])/\(q=(aV (bA t) ⟨cs,[]⟩).1/\xr u rb db ob b3 {r with ch:=.slice C 0 c'} l spent over ⟨zk,zn,zs,zA,zl,zc⟩ (bA t) w5/\eI w5 hb A c (cs.length:Nat) [i1,i2,i3]/\∃cv bv xs,aL r.sb room w5 cv bv xs (aV (bA t) ⟨cs,[]⟩).2.cs [])/\w5.cell? (ak rb 1)=some (ah sb)/\w5.cell? (ak b3 0)=some (ae zk)/\w5.cell? (ak b3 1)=some (ae zn)/\w5.cell? (ak b3 2)=some (af zs)/\w5.cell? (ak b3 3)=some (.slice zA zl zc)):=ad (by
     obtain⟨cv4,bv4,xs4,hs4⟩:=H4.2.2.2
     have hsz:=HH.2.2.2.2.1
     have hmy:=HH.2.2.1
     have hp:=yQ (vb:=none) (hs4.later hd) ⟨fun _ e=>(by cases e)⟩ ⟨zk,zn,zs,zA,zl,zc⟩ (bA t) hW4.tz (gQ hmy) (fun n hn=>by have:=yo hmy n hn;unfold fP;omega) (by rw[d6 hmy];omega) (by rw[d6 hmy];exact(HU.out HF.out).2.2.1)
     rw[show({r with ch:=.slice C 0 c'} :RC).sb=sb from HSB.symm]at hp
     refine hp.mono ?_
     rintro e w5 ⟨rfl,⟨cv5,xs5,k1⟩,-,k2⟩
     have hT:TF iw w4.drew w5:=⟨k2.mono fun k _ h=>h.elim (fun e=>by cases e) id⟩
     have hW5:=hW4.keep hT (by decide) (by decide)
     rw[HSB.out]at k1
     exact⟨_,rfl,⟨rfl,hW5,(H4.2.1.later hd).tf hT (by decide) (by decide),cv5,_,xs5,k1⟩,HSV.out w5 hW5⟩)
    have hpn:(binOp .neq 241 (ah hb) (ah hb)).run prog w4=.ok (.bool false) w4:=yB _ _ _ 12 underlying241 (fun w=>by kernel_rfl) _
    clear hd hW4
    go_upto_region 14 with fail
    clear hpn
    go_region_held3 (fun w=>w.cell? (ak rb 1)=some (ah sb)/\w.cell? (ak b3 0)=some (ae zk)/\w.cell? (ak b3 1)=some (ae zn)/\w.cell? (ak b3 2)=some (af zs)/\w.cell? (ak b3 3)=some (.slice zA zl zc))
     (first|(with_reducible exact HS5.out)|(with_reducible exact HSD.out))
     (first|(go_at_call 196;with_reducible refine HPU.out.mono ?_;rintro e w5 ⟨q,rfl,k1,k2⟩;have HS5:=ad k2;have H5:=ad k1;clear k1 k2))
    clear HPU HSV HSD HS5 f0 q3 q4 H4
    obtain⟨ga,off,rfl,hga,a1⟩:=H5.2.2.1.args.at' 1 i2 rfl
    have HGA:=ad (aD hga a1)
    have HSV:Hid (∀w,xr u rb db ob b3 {r with ch:=.slice C 0 c'} l spent over ⟨zk,zn,zs,zA,zl,zc⟩ (bA t) w->eI w hb (some (ak ga off)) c (cs.length:Nat) [i1,i2,i3]->w.cell? (ak rb 1)=some (ah sb)/\w.cell? (ak hb 6)=some (.slice (some (ak ga off)) 3 c)/\w.cell? (ak ga (off+1))=some (ae (i2:Nat))):=ad fun w hw hc=>by
     obtain⟨ga',off',e1,-,h1⟩:=hc.args.at' 1 i2 rfl
     injection e1 with e1
     injection e1 with e1 e2
     subst e1 e2
     exact⟨(hw.run.run.get 1).trans (by rw[HSB.out];rfl),hc.get 6,h1⟩
    have hd:=(Below.refl w5.heap.size w5).drew
    have hW5:=H5.2.1.keep (TF.of_below [] hd) (fun _ _ h=>by cases h) (fun _ h=>by cases h)
    have hC5:=H5.2.2.1.later hd
    have HSD:=ad (HSV.out w5.drew hW5 hC5)
    have HUF:Hid (Calls prog 176 #[ah sb,ae (i2:Nat),ae (q:Nat)] w5.drew fun e w6=>∃ok,e=.returned (.tuple #[.bool ok,ae 0])/\(xr u rb db ob b3 {r with ch:=.slice C 0 c'} l spent over ⟨zk,zn,zs,zA,zl,zc⟩ (bA t) w6/\eI w6 hb (some (ak ga off)) c (cs.length:Nat) [i1,i2,i3]/\∃cv bv xs cs' ys',aL r.sb room w6 cv bv xs cs' ys'/\cs.length<=cs'.length/\(ok=true->F cs'/\ic cs' i3 fN/\cj cs')/\(ok=false->N))/\w6.cell? (ak rb 1)=some (ah sb)/\w6.cell? (ak hb 6)=some (.slice (some (ak ga off)) 3 c)/\w6.cell? (ak ga (off+1))=some (ae (i2:Nat))):=ad (by
     obtain⟨hq,-,-,cv5,bv5,xs5,hs5⟩:=H5.out
     obtain⟨-,hi2,-,hun⟩:=HU.out HF.out
     have hge:cs.length<=(aV (bA t) ⟨cs,[]⟩).2.cs.length:=(iJ (bA t) ⟨cs,[]⟩ (fun y hy=>by cases hy)).1.ge
     have hp:=oo (hs5.later hd) i2 q (by omega) (by rw[hq];exact Ei (gQ HH.2.2.1) cs) (by simp)
     rw[<-HSB.out]at hp
     refine hp.mono ?_
     rintro e w6 ⟨ok,z',cv6,bv6,xs6,cs6,ys6,csF,bsF,rfl,h1,h2,⟨-,-,-,hln⟩,h4,h5⟩
     rw[hq]at h4
     obtain⟨rfl,g1,g2⟩:=hun ok z' csF bsF h4
     have hW6:=hW5.keep h2 (by decide) (by decide)
     have hC6:=hC5.tf h2 (by decide) (by decide)
     rw[HSB.out]at h1
     exact⟨ok,rfl,⟨hW6,hC6,cv6,bv6,xs6,cs6,ys6,h1,by omega,fun e=>by rw[<-(h5 e).1];exact g1 e,g2⟩,HSV.out w6 hW6 hC6⟩)
    clear hd hW5 hC5 hga a1
    go_upto_region 17 with fail
    go_region_held3 (fun w=>w.cell? (ak rb 1)=some (ah sb)/\w.cell? (ak hb 6)=some (.slice (some (ak ga off)) 3 c)/\w.cell? (ak ga (off+1))=some (ae (i2:Nat)))
     (first|(with_reducible exact HS6.out)|(with_reducible exact HSD.out))
     (first|(go_at_call 176;with_reducible refine HUF.out.mono ?_;rintro e w6 ⟨ok,rfl,k1,k2⟩;have HS6:=ad k2;have H6:=ad k1;clear k1 k2))
    clear HUF HSV HSD HS6 HGA H5
    cases ok with
    |true=>
     have f3:w6.cell? (ak hb 3)=some (.pointer none):=H6.2.1.get 3
     have x7:w6.cell? (ak rb 7)=some (ah fb):=(H6.1.run.run.get 7).trans (by show some r.fr=_;rw[HF.out])
     have xf:=H6.1.run.run.fz
     have hl6:=H6.1.run.run.lt
     obtain⟨X,hX⟩:∃X,X=w6.setCell (ak rb 7) (.pointer none):=⟨_,rfl⟩
     have h9:=H6.1.run.put (r':= {r with ch:=.slice C 0 c',fr:=.pointer none}) 7 (.pointer none) rfl rfl rfl
     rw[<-hX]at h9
     obtain⟨cv6,bv6,xs6,cs6,ys6,k1,-,k3,-⟩:=H6.2.2
     obtain⟨hF6,hG6,hV6⟩:=k3 rfl
     have hst:=k1.tf h9.2 (by decide)
     have HX:=ad (aD (H6.1.tf.trans (h9.2.mono (by decide))) (aD hF6 hst))
     have hCX:=H6.2.1.tf h9.2 (by decide) (by decide)
     obtain⟨ga',off',e1,-,a2⟩:=hCX.args.at' 2 i3 rfl
     injection e1 with e1
     injection e1 with e1 e2
     subst e1 e2
     have a6:X.cell? (ak hb 6)=some (.slice (some (ak ga off)) 3 c):=hCX.get 6
     have HCA:=ad (sd (r:= {r with ch:=.slice C 0 c',fr:=.pointer none}) 0 [99,97,116,99,104] 3 C c' none none h9.1 hst hV6 hG6 rfl (by decide) (.inl rfl) (by decide) (by decide+kernel) rfl rfl fun W hW=>(ng W (i3:Nat) ((0:Nat):Int)).mono fun e w' h=>h)
     clear h9 k1 k3 hF6 hG6 hV6 hst hCX H6
     go_upto_region 22 with fail
     rw[<-hX]
     clear hX f3 x7 xf hl6
     go_wp2_with fail
     refine HCA.mono ?_
     rintro e w7 ⟨rfl,gb,k1,k2,k3⟩
     have HQ:Hid (P (.returned (ae 0)) w7):=ad (by
      rw[HP.out]
      exact⟨HX.1.trans (k3.mono (by decide)),.inl ⟨rfl,C,c',gb,cv6,bv6,xs6,cs6,ys6,k1,k2,HX.2.2.tf k3 (by decide),HX.2.1⟩⟩)
     clear k1 k2 k3 a2 a6 HCA
     go_wp2_with fail
     exact HQ.out
    |false=>
     obtain⟨cv6,bv6,xs6,cs6,ys6,k1,k2,-,k4⟩:=H6.2.2
     have HUD:=ad (vy H6.1.run.run k1 H6.2.1 (HU.out HF.out).1 k2)
     have HN:=ad (k4 rfl)
     clear k1 k2 k4
     go_wp2_with fail
     refine HUD.mono ?_
     rintro e w7 ⟨rfl,k1,-⟩
     have HNX:Hid (Fe u rb db ob b3 hb fb c room r l spent over ⟨zk,zn,zs,zA,zl,zc⟩ (bA t) (some (ak ga off)) cs [i1,i2,i3] N 0 (.pointer none) w7):=ad (.inl ⟨rfl,HN.out,C,c',H6.1.keep k1 (by decide) (by decide)⟩)
     clear k1 HUD
     go_wp2_with fail
     go_roundg 0
     case measure=>exact Nat.zero_lt_one
     case rel=>exact⟨rfl,HNX⟩
end
section
open Go.RowKit Go.Maps
variable[Base]
def cT:List UInt8:=[116,104,114,111,119]
def fj:List UInt8:=[99,97,116,99,104]
def fO (t:Tm):Tm:=.mk 4 0 cT [t]
def EF (G:List (Int×List UInt8)->Prop) (w0:World) (mb db ob:Nat) (v:Value) (w:World):Prop:=
 ∃(B:Nat) (spent:Int) (evs:List (Int×List UInt8)),G evs/\evs.length<=100000/\aS w B 31 2 kP v evs/\dF w mb db ob spent []/\TF iN w0 w
abbrev fY (G:List (Int×List UInt8)->Prop) (w0:World) (rb mb db ob:Nat) (w:World):Prop:=∃r',bS w rb r'/\EF G w0 mb db ob r'.ev w
theorem pI {G:List (Int×List UInt8)->Prop} {w0 w:World} {rb mb db ob:Nat} {r:RC} {l:List (Int×List UInt8)} {spent:Int} (h:aT w rb r l db ob spent []) (hm:r.mb=mb) (hg:G l) (hf:TF iN w0 w):fY G w0 rb mb db ob w:=
 ⟨r,h.run,rb+1,spent,l,hg,h.few.1,h.ev,hm▸h.mach,hf⟩
omit[Base]in
theorem og:dc [] (fun _=>aQ) (fun _=>0):=⟨fun i c hc=>by simp at hc,fun i c hc=>by simp at hc,fun i c hc=>by simp at hc⟩
omit[Base]in
theorem pT (g:Tm):(cH g).2.cs.length<=g.size:=by
 have h:=(iJ g ⟨[],[]⟩ (fun y hy=>by cases hy)).1.le
 simpa using h
omit[Base]in
theorem Ef (f:Int->Int) (t:Tm):(fd f t).k=t.k:=by
 cases t
 rw[fd]
 rfl
theorem uK {t:Tm} {cs:List Sc} {T:Nat->Tm} {f:Int->Int} {a:Nat} (hm:t.may=true) (hf:t.fits=true) (h:dc cs T f) (h0:∀n,0<=f n) (hl:cs.length<=2000) (ha:a<cs.length) (hT:T a=t):(fd f t).may=true/\(fd f t).fits=true/\(fd f t).size=t.size/\bA (fd f t)=bA t:=
 ⟨me f h0 t hm,qv f t hf fun n hn=>by have:=h.nonneg ha n (hT▸hn);omega,jZ f t,nt hm fun p hp q hq=>h.inj ha ha p (hT▸hp) q (hT▸hq)⟩
omit[Base]in
theorem rW {t:Tm} (hf:t.fits=true):∀n∈dP (fO t),fP n:=fun n hn=>by
 rw[fO,dP,if_neg (by decide),List.nil_append,gm,gm,List.append_nil]at hn
 exact kN t hf n hn
def wm (w0:World) (ob:Nat) (t:Tm) (txt:List UInt8):Prop:=∀w z,TF iN w0 w->aI w (aR w 27) z t->Calls prog 16 #[aU z,ae 1,ah ob] w fun e w'=>e=.returned (.tuple #[af txt,ae 0])/\aE w w'
section
variable {w0 W:World} {rb mb db ob:Nat} {nm:Value} {most:Int} {r:RC} {X:TV} {g:Tm}
structure qk (w0:World) (rb db ob:Nat) (r:RC) (g:Tm) (w:World) (fb:Nat):Prop where
 run:aT w rb {r with fr:=ah fb} [] db ob 0 []
 fr:lg w fb 0 ((cH g).1:Nat) 0 (.pointer none) (.pointer none) (.pointer none)
 st:∃cv bv xs,aL r.sb 40000 w cv bv xs (cH g).2.cs []
 vars:∃m,M6 w r.vb m/\∀n,aP m n=aP (jD (cH g).2.fr) n
 tf:TF iN w0 w
theorem o6 (hN:ig W rb mb db ob nm most r) (hb:aE w0 W) (hvb:w0.heap.size<=r.vb) (hX:aI W (aR W 27) X g) (hm:g.may=true) (h6:∀n∈dP g,fP n) (hsz:g.size<=2000) (hk:g.k=4) (hsl:g.s.length<=maxLen) (hkd:bI 4 g.s g.args.length≠2/\bI 4 g.s g.args.length≠3/\bI 4 g.s g.args.length≠4) (W':World) (hW':aE W W'):
 Calls prog 104 #[ah rb,aU X] W' fun e w=>e=.returned (ae 0)/\∃fb,qk w0 rb db ob r g w fb:=by
 have hA:X.k=g.k/\X.s=g.s/\X.len=g.args.length:=by
  cases hX with
  |mk _ args xs h1 h2 h3 _ _=>exact⟨rfl,rfl,h2.symm⟩
 obtain⟨e1,e2,e3⟩:=hA
 refine(oI W' rb 40000 r [] db ob 0 [] _ _ [] [] [] X g (hN.st.later hW') (hN.store.later hW') (hN.vars.later hW') (hX.keep (fun b hb=>hb.keep (hW'.block b hb.lt)) fun b hb=>hW'.block b hb.lt) hm h6 hsz (by simp;omega) (by rw[e2];exact hsl) (by rw[e3];have:=i8 g;omega) (.inr (e1.trans hk)) (by rw[e1,e2,e3,hk];exact hkd)).mono ?_
 rintro e w ⟨rfl,fb,cv,bv,xs,g1,g2,g3,g4,g5⟩
 exact⟨rfl,fb,g1,g2,⟨cv,bv,xs,g3⟩,g4,pK (TF.of_below iN (hb.trans (hW'.mono hb.size))) hvb g5 (by decide)⟩
def FP (w0:World) (rb mb db ob:Nat) (r:RC) (t:Tm) (txt:List UInt8) (n:Nat) (o:Int) (w:World):Prop:=
 (n=3/\o=0/\∃fb,qk w0 rb db ob r (fO t) w fb)∨
 (n=2/\o=2/\∃y b,aT w rb (RC.ball {r with fr:=.pointer none,loose:=0} y) [] db ob 1 []/\aI w (aR w 27) y b/\(b.may=true/\b.fits=true/\b.size=t.size/\bA b=bA t)/\TF iN w0 w)∨
 (n=0/\o=3/\fY (fun l=>l=[(3,txt)]) w0 rb mb db ob w)
theorem vZ {t:Tm} {txt:List UInt8} (hN:ig W rb mb db ob nm most r) (hb:aE w0 W) (hvb:w0.heap.size<=r.vb) (hX:aI W (aR W 27) X (fO t)) (hm:t.may=true) (hf:t.fits=true) (hsz:t.size<=1000) (hk:t.k≠1) (hPut:wm w0 ob (bA t) txt):
 Calls prog 40 #[ah rb,aU X] W fun e w'=>e=am/\fY (fun l=>l=[(3,txt)]) w0 rb mb db ob w':=by
 have hgm:(fO t).may=true:=by
  simp[fO,Tm.may,Tm.mays,hm]
  decide
 have hgs:(fO t).size=t.size+1:=by simp[fO,Tm.size,Tm.sizes];omega
 have hmb:=hN.mb
 obtain⟨T,f,hC,hr,hlt,-,-,hf0,-⟩:=og.put (fO t) hgm
 obtain⟨c,hc0,hck,-,hcs,hct,hca,hcl⟩:=hC.arg hlt hr (by decide)
 obtain⟨a,hca1⟩:∃a,c.args=[a]:=by
  have h:=congrArg List.length hca
  rw[List.length_map]at h
  exact List.length_eq_one_iff.1 h
 have hal:a<(cH (fO t)).2.cs.length:=hcl a (by rw[hca1];exact List.mem_singleton.2 rfl)
 have hTa:T a=t:=by rw[hca1]at hca;simpa using hca
 have hgot:=zZ hC t a hal hTa
 have hbm:(fd f t).may=true/\(fd f t).fits=true/\(fd f t).size=t.size/\bA (fd f t)=bA t:=uK hm hf hC hf0 (Nat.le_trans (pT _) (by omega)) hal hTa
 refine(va W rb X (FP w0 rb mb db ob r t txt) (fY (fun l=>l=[(3,txt)]) w0 rb mb db ob) (fun n o w h=>?_) (fun W' hW'=>?_) (fun n w h=>?_) (fun n w h=>?_) (fun n w h=>?_)).mono fun e w' h=>h
 ·rcases h with⟨-,rfl,-⟩|⟨-,rfl,-⟩|⟨-,rfl,h⟩
  ·exact .inl rfl
  ·exact .inr (.inr (.inl rfl))
  ·exact .inr (.inr (.inr ⟨rfl,h⟩))
 ·refine(o6 hN hb hvb hX hgm ?_ (by omega) rfl (show cT.length<=maxLen by decide) (show bI 4 cT 1≠2/\bI 4 cT 1≠3/\bI 4 cT 1≠4 by decide+kernel) W' hW').mono ?_
  ·exact rW hf
  ·rintro e w ⟨rfl,fb,h⟩
   exact⟨3,0,rfl,.inl ⟨rfl,rfl,fb,h⟩⟩
 ·rcases h with⟨rfl,-,fb,h⟩|⟨-,h,-⟩|⟨-,h,-⟩
  ·obtain⟨cv,bv,xs,hs⟩:=h.st
   refine ta w rb 40000 fb _ _ 10 88 none 0 _ _ [] db ob 0 [] cv bv xs _ [] c 1 _ h.run hs rfl h.fr (.here hc0 hct) hc0 hck (by rw[hca1];rfl) ⟨by omega,by omega⟩ (by rw[hcs];decide+kernel) (.inr (.inr ⟨rfl,rfl⟩)) (by rw[hcs];decide) ⟨by omega,by omega⟩ (fun e w ⟨_,o,_,h,_⟩=>⟨o,h⟩) fun v A c' k1 k2 k3 k4=>?_
   rw[hca1]at k3
   refine(mS v rb 40000 a c' _ [] db ob 1 [] cv bv xs _ [] A _ _ (fd f t) k1 k2 hC.vnil hgot (by rw[Ef];exact hk) (by rw[hbm.2.2.1];omega) k3).mono ?_
   rintro e u' ⟨rfl,y,j1,j2,j3⟩
   exact⟨2,2,by omega,rfl,.inr (.inl ⟨rfl,rfl,y,_,j1,j2.move fun b hb=>⟨hb.2,rfl⟩,hbm,(h.tf.trans (k4.mono (by decide))).trans (j3.mono (by decide))⟩)⟩
  ·cases h
  ·cases h
 ·rcases h with⟨-,h,-⟩|⟨-,h,-⟩|⟨-,h,-⟩
  ·cases h
  ·cases h
  ·cases h
 ·rcases h with⟨-,h,-⟩|⟨rfl,-,y,b,h1,h2,⟨h3,h4,h5,h6⟩,h7⟩|⟨-,h,-⟩
  ·cases h
  ·refine(pj (hb:=0) (fb:=0) (c:=0) (room:=40000) (i1:=0) (i2:=0) (i3:=0) (txt:=txt) (A:=none) (cs:=[]) (F:=fun _=>False) (N:=True) y b h1 ⟨rfl,rfl,rfl,rfl⟩ h2 h3 h4 (by omega) (by simp) (fun w' z hw hz=>hPut w' z (h7.trans hw) (h6▸hz)) (.inl ⟨rfl,⟨none,0,hN.ch⟩,trivial⟩) (fun e=>by injection e with e;cases e)).mono ?_
   rintro e u' ⟨k1,⟨-,-,-,-,-,-,-,-,-,-,-,-,k2⟩|⟨-,rfl,C,c',v,k2⟩⟩
   ·exact k2.elim
   ·exact⟨0,3,by omega,rfl,.inr (.inr ⟨rfl,rfl,pI k2 hmb rfl (h7.trans k1)⟩)⟩
  ·cases h
end
end
section
open Go.RowKit Go.Maps
variable[Base]
def du (t p:Tm):Tm:=.mk 4 0 fj [fO t,p,fN]
def RC.like (r r2:RC):Prop:=r2.sb=r.sb/\r2.vb=r.vb/\r2.nm=r.nm/\r2.ans=r.ans/\r2.most=r.most/\r2.mb=r.mb
def iq (r:RC) (g:Tm) (w:World):Prop:=∃m,M6 w r.vb m/\∀n,aP m n=aP (jD (cH g).2.fr) n
theorem iq.tf {r:RC} {g:Tm} {w w':World} {tys:List TypeId} (h:iq r g w) (hf:TF tys w w'):iq r g w':=by
 obtain⟨m,h1,h2⟩:=h
 exact⟨m,⟨hf.map h1.map,h1.ok⟩,h2⟩
def FN (w0:World) (rb mb db ob:Nat) (r:RC) (t p:Tm) (i1 i2 i3:Nat) (F:List Sc->Prop) (G:List (Int×List UInt8)->Prop) (n:Nat) (o:Int) (w:World):Prop:=
 (n=7/\o=0/\∃fb,qk w0 rb db ob r (du t p) w fb)∨
 (n=6/\o=0/\∃hb fb gb c A ch,vc w rb db ob hb fb gb 40000 c {r with fr:=.pointer none,loose:=0} A [] 1 [] (cH (du t p)).2.cs i1 i2 i3 ch/\(∃cv bv xs,aL r.sb 40000 w cv bv xs (cH (du t p)).2.cs [])/\iq r (du t p) w/\TF iN w0 w)∨
 (n=5/\o=2/\∃hb fb c A ch y b,aT w rb (RC.ball {r with ch:=ch,fr:=ah fb,loose:=0} y) [] db ob 2 []/\aI w (aR w 27) y b/\(b.may=true/\b.fits=true/\b.size=t.size/\bA b=bA t)/\DX rb hb fb r.sb c 40000 ch A (cH (du t p)).2.cs [i1,i2,i3] w/\iq r (du t p) w/\TF iN w0 w)∨
 (n=4/\o=0/\∃r2 gb csF ys cv bv xs,aT w rb {r2 with fr:=ah gb} [] db ob 2 []/\r.like r2/\lg w gb 0 (i3:Nat) 0 (.pointer none) (.pointer none) (.pointer none)/\aL r.sb 40000 w cv bv xs csF ys/\(F csF/\ic csF i3 fN/\cj csF)/\iq r (du t p) w/\TF iN w0 w)∨
 (n=3/\o=0/\∃r2 csF ys cv bv xs,aT w rb r2 [] db ob 2 []/\r2.fr=.pointer none/\r.like r2/\aL r.sb 40000 w cv bv xs csF ys/\F csF/\iq r (du t p) w/\TF iN w0 w)∨
 (n=0/\o=3/\fY G w0 rb mb db ob w)
omit[Base]in
theorem wM {cs:List Sc} {i:Nat} (h:ic cs i fN) (hv:cj cs):∃j c,bP cs i j/\cs[j]?=some c/\c.k=3/\c.args=[]/\c.s=[116,114,117,101]:=by
 obtain⟨j,c,l,h1,h2,h3,h4,-⟩:=jY h hv
 unfold fN di at h3
 split at h3
 ·injection h3 with e
  cases e
 ·injection h3 with e1 e2 e3 e4
  exact⟨j,c,h1,h2,e1.symm,List.length_eq_zero_iff.1 (by rw[<-h4,<-e4];rfl),e3.symm⟩
omit[Base]in
theorem yT {t p:Tm} (hf:t.fits=true) (hp:∀n∈dP p,fP n):∀n∈dP (du t p),fP n:=fun n hn=>by
 rw[du,dP,if_neg (by decide),List.nil_append,gm,gm,gm,gm,List.append_nil]at hn
 rcases List.mem_append.1 hn with h|h
 ·exact rW hf n h
 ·rcases List.mem_append.1 h with h|h
  ·exact hp n h
  ·simp[fN,dP,gm]at h
theorem ot {w0 W:World} {rb mb db ob:Nat} {nm:Value} {r:RC} {X:TV} {t p:Tm} {txt:List UInt8} {evA:Int×List UInt8} {N:Prop} {F:List Sc->Prop} (hN:ig W rb mb db ob nm 1 r) (hb:aE w0 W) (hvb:w0.heap.size<=r.vb) (hX:aI W (aR W 27) X (du t p)) (hm:t.may=true) (hf:t.fits=true) (hsz:t.size<=900) (hk:t.k≠1) (hpm:p.may=true) (hp6:∀n∈dP p,fP n) (hps:p.size=1)
 (hPut:wm w0 ob (bA t) txt)
 (hU:∀T f i2 i3,dc (cH (du t p)).2.cs T f->(∀(i:Nat) c,(cH (du t p)).2.cs[i]?=some c->c.k=1->∃n,T i=.mk 1 n [] []/\aP (cH (du t p)).2.fr n=some i)->T i2=p->T i3=fN->i2<(cH (du t p)).2.cs.length->i3<(cH (du t p)).2.cs.length->∀ok z csF bsF,l6 false (aV (bA t) ⟨(cH (du t p)).2.cs,[]⟩).2.cs [] [(i2,(aV (bA t) ⟨(cH (du t p)).2.cs,[]⟩).1)] 0 (ok,z) csF bsF->z=0/\(ok=true->F csF/\ic csF i3 fN/\cj csF)/\(ok=false->N))
 (hAns:∀w r2 csF ys cv bv xs,aT w rb r2 [] db ob 2 []->r.like r2->iq r (du t p) w->aL r.sb 40000 w cv bv xs csF ys->F csF->TF iN w0 w->Calls prog 197 #[ah rb] w fun e u'=>e=.returned (ae 3)/\∃v,aT u' rb {r2 with ev:=v,ans:=1} [evA] db ob 2 []/\TF rI w u'):
 Calls prog 40 #[ah rb,aU X] W fun e w'=>e=am/\fY (fun l=>(N/\l=[(3,txt)])\/((∃csF,F csF)/\l=[evA])) w0 rb mb db ob w':=by
 obtain⟨G,hG⟩:∃G:List (Int×List UInt8)->Prop,G=fun l=>(N/\l=[(3,txt)])\/((∃csF,F csF)/\l=[evA]):=⟨_,rfl⟩
 rw[<-hG]
 have hgm:(du t p).may=true:=by
  simp[du,fO,fN,Tm.may,Tm.mays,hm,hpm]
  decide
 have hgs:(du t p).size=t.size+4:=by simp[du,fO,fN,Tm.size,Tm.sizes,hps];omega
 have hmb:=hN.mb
 obtain⟨T,f,hC,hr,hlt,-,-,hf0,hnew⟩:=og.put (du t p) hgm
 have hfew:(cH (du t p)).2.cs.length<=904:=Nat.le_trans (pT _) (by omega)
 obtain⟨c,hc0,hck,-,hcs,hct,hca,hcl⟩:=hC.arg hlt hr (by decide)
 obtain⟨i1,i2,i3,hca1⟩:∃i1 i2 i3,c.args=[i1,i2,i3]:=by
  have h:=congrArg List.length hca
  rw[List.length_map]at h
  generalize c.args=l at h
  match l,h with
  |[x,y,z],_=>exact⟨x,y,z,rfl⟩
 rw[hca1]at hca
 simp only[List.map_cons,List.map_nil,List.cons.injEq,and_true]at hca
 obtain⟨hT1,hT2,hT3⟩:=hca
 have hl1:i1<(cH (du t p)).2.cs.length:=hcl i1 (by rw[hca1];simp)
 have hl2:i2<(cH (du t p)).2.cs.length:=hcl i2 (by rw[hca1];simp)
 have hl3:i3<(cH (du t p)).2.cs.length:=hcl i3 (by rw[hca1];simp)
 obtain⟨d,hd0,hdk,-,hds,hdt,hda,hdl⟩:=hC.arg hl1 hT1 (by decide)
 obtain⟨a,hda1⟩:∃a,d.args=[a]:=by
  have h:=congrArg List.length hda
  rw[List.length_map]at h
  exact List.length_eq_one_iff.1 h
 have hal:a<(cH (du t p)).2.cs.length:=hdl a (by rw[hda1];exact List.mem_singleton.2 rfl)
 have hTa:T a=t:=by rw[hda1]at hda;simpa using hda
 have hgot:=zZ hC t a hal hTa
 have hbm:=uK hm hf hC hf0 (Nat.le_trans hfew (by omega)) hal hTa
 have hgt1:ic (cH (du t p)).2.cs i1 (.mk 4 0 cT [fd f t]):=zZ hC (fO t) i1 hl1 hT1
 have hm1:(Tm.mk 4 0 cT [fd f t]).may=true:=by
  simp[Tm.may,Tm.mays,hbm.1]
  decide
 have hs1:(Tm.mk 4 0 cT [fd f t]).size<=2000:=by
  have:=hbm.2.2.1
  simp[Tm.size,Tm.sizes]
  omega
 have hu:=hU T f i2 i3 hC (fun i c=>hnew i c (Nat.zero_le _)) hT2 hT3 hl2 hl3
 refine(va W rb X (FN w0 rb mb db ob r t p i1 i2 i3 F G) (fY G w0 rb mb db ob) (fun n o w h=>?_) (fun W' hW'=>?_) (fun n w h=>?_) (fun n w h=>?_) (fun n w h=>?_)).mono fun e w' h=>h
 ·rcases h with⟨-,rfl,-⟩|⟨-,rfl,-⟩|⟨-,rfl,-⟩|⟨-,rfl,-⟩|⟨-,rfl,-⟩|⟨-,rfl,h⟩
  ·exact .inl rfl
  ·exact .inl rfl
  ·exact .inr (.inr (.inl rfl))
  ·exact .inl rfl
  ·exact .inl rfl
  ·exact .inr (.inr (.inr ⟨rfl,h⟩))
 ·refine(o6 hN hb hvb hX hgm (yT hf hp6) (by omega) rfl (show fj.length<=maxLen by decide) (show bI 4 fj 3≠2/\bI 4 fj 3≠3/\bI 4 fj 3≠4 by decide+kernel) W' hW').mono ?_
  rintro e w ⟨rfl,fb,h⟩
  exact⟨7,0,rfl,.inl ⟨rfl,rfl,fb,h⟩⟩
 ·rcases h with⟨rfl,-,fb,h⟩|⟨rfl,-,hb',fb,gb,c',A,ch,h1,⟨cv,bv,xs,h2⟩,h3,h4⟩|⟨-,h,-⟩|⟨rfl,-,r2,gb,csF,ys,cv,bv,xs,h1,h2,h3,h4,⟨h5,h6,h7⟩,h8,h9⟩|⟨rfl,-,r2,csF,ys,cv,bv,xs,h1,h2,h3,h4,h5,h6,h7⟩|⟨-,h,-⟩
  ·obtain⟨cv,bv,xs,hs⟩:=h.st
   refine ta w rb 40000 fb _ _ 9 87 none 0 _ _ [] db ob 0 [] cv bv xs _ [] c 3 _ h.run hs rfl h.fr (.here hc0 hct) hc0 hck (by rw[hca1];rfl) ⟨by omega,by omega⟩ (by rw[hcs];decide+kernel) (.inr (.inl ⟨rfl,rfl⟩)) (by rw[hcs];decide) ⟨by omega,by omega⟩ (fun e w ⟨_,o,_,h,_⟩=>⟨o,h⟩) fun v A c' k1 k2 k3 k4=>?_
   rw[hca1]at k3
   refine(xN (r:= {r with fr:=.pointer none,loose:=0}) (i2:=i2) (i3:=i3) _ _ k1 hN.ch rfl k2 k3 hC.vnil hgt1 hm1 hs1 (.inr rfl) (show cT.length<=maxLen by decide) (show bI 4 cT 1≠2/\bI 4 cT 1≠3/\bI 4 cT 1≠4 by decide+kernel)).mono ?_
   rintro e u' ⟨rfl,⟨hb',fb',gb,ch,j1⟩,j2⟩
   have hT:TF iN w u':=(k4.mono (by decide)).trans (j2.mono (by decide))
   exact⟨6,0,by omega,rfl,.inr (.inl ⟨rfl,rfl,hb',fb',gb,c',A,ch,j1,⟨cv,bv,xs,k2.tf j2 (by decide)⟩,iq.tf h.vars hT,h.tf.trans hT⟩)⟩
  ·refine ta w rb 40000 gb _ _ 10 88 (some (ak fb 0)) 1 _ _ [] db ob 1 [] cv bv xs _ [] d 1 _ h1.run h2 rfl h1.gb' (.here hd0 hdt) hd0 hdk (by rw[hda1];rfl) ⟨by omega,by omega⟩ (by rw[hds];decide+kernel) (.inr (.inr ⟨rfl,rfl⟩)) (by rw[hds];decide) ⟨by omega,by omega⟩ (fun e w ⟨_,o,_,h,_⟩=>⟨o,h⟩) fun v A2 c2 k1 k2 k3 k4=>?_
   rw[hda1]at k3
   refine(mS v rb 40000 a c2 _ [] db ob 2 [] cv bv xs _ [] A2 _ _ (fd f t) k1 k2 hC.vnil hgot (by rw[Ef];exact hk) (by rw[hbm.2.2.1];omega) k3).mono ?_
   rintro e u' ⟨rfl,y,j1,j2,j3⟩
   have hT:TF iN w u':=(k4.mono (by decide)).trans (j3.mono (by decide))
   have hT2:TF [124,105] w u':=k4.trans (j3.mono (by decide))
   exact⟨5,2,by omega,rfl,.inr (.inr (.inl ⟨rfl,rfl,hb',fb,c',A,ch,y,_,j1,j2.move fun b hb=>⟨hb.2,rfl⟩,hbm,⟨h1.chs.keep fun k hk=>hT2.block (h1.chs.ty hk) (by decide),h1.cc.tf hT2 (by decide) (by decide),(hT2.block (t:=243) ⟨_,h1.fb'⟩ (by decide)).trans h1.fb',cv,bv,xs,h2.tf hT2 (by decide)⟩,iq.tf h3 hT,h4.trans hT⟩))⟩
  ·cases h
  ·obtain⟨j,c3,g1,g2,g3,g4,g5⟩:=wM h6 h7
   rw[<-h2.1]at h4
   refine(wO w rb 40000 gb i3 j none 0 _ _ [] db ob 2 [] cv bv xs csF ys c3 h1 h4 rfl h3 g1 g2 g3 g4 (by rw[g5];decide+kernel) (by rw[g5];decide)).mono ?_
   rintro e u' ⟨rfl,j1,j2⟩
   have hT:TF iN w u':=j2.mono (by decide)
   refine⟨3,0,by omega,rfl,.inr (.inr (.inr (.inr (.inl ⟨rfl,rfl,_,csF,ys,cv,bv,xs,j1,rfl,h2,?_,h5,iq.tf h8 hT,h9.trans hT⟩))))⟩
   rw[<-h2.1]
   exact h4.tf j2 (by decide)
  ·refine(mW w rb r2 h1.run h2 (fun e w'=>∃m o,m<3/\e=.returned (ae o)/\FN w0 rb mb db ob r t p i1 i2 i3 F G m o w') (fun e w ⟨_,o,_,h,_⟩=>⟨o,h⟩) ((hAns w r2 csF ys cv bv xs h1 h3 h6 h4 h5 h7).mono ?_)).mono fun e w' h=>h
   rintro e u' ⟨rfl,v,j1,j2⟩
   exact⟨0,3,by omega,rfl,.inr (.inr (.inr (.inr (.inr ⟨rfl,rfl,pI j1 (h3.2.2.2.2.2.trans hmb) (by rw[hG];exact .inr ⟨⟨csF,h5⟩,rfl⟩) (h7.trans (j2.mono (by decide)))⟩))))⟩
  ·cases h
 ·rcases h with⟨-,h,-⟩|⟨-,h,-⟩|⟨-,h,-⟩|⟨-,h,-⟩|⟨-,h,-⟩|⟨-,h,-⟩
  all_goals cases h
 ·rcases h with⟨-,h,-⟩|⟨-,h,-⟩|⟨rfl,-,hb',fb,c',A,ch,y,b,h1,h2,⟨h3,h4,h5,h6⟩,h7,h8,h9⟩|⟨-,h,-⟩|⟨-,h,-⟩|⟨-,h,-⟩
  ·cases h
  ·cases h
  ·refine(pj (i1:=i1) (i2:=i2) (i3:=i3) (room:=40000) (txt:=txt) (F:=fun csF=>F csF/\ic csF i3 fN/\cj csF) (N:=N) y b h1 ⟨rfl,rfl,rfl,rfl⟩ h2 h3 h4 (by omega) (by simp) (fun w' z hw hz=>hPut w' z (h9.trans hw) (h6▸hz)) (.inr ⟨rfl,h7⟩) (fun _=>⟨by omega,hl2,by omega,by rw[h6];exact fun ok z csF bsF h=>⟨(hu ok z csF bsF h).1,fun e=>⟨(hu ok z csF bsF h).2.1 e,((hu ok z csF bsF h).2.1 e).2⟩,(hu ok z csF bsF h).2.2⟩⟩)).mono ?_
   rintro e u' ⟨k1,⟨rfl,C,c2,gb,cv,bv,xs,csF,ys,j1,j2,j3,j4⟩|⟨hn,rfl,C,c2,v,j1⟩⟩
   ·exact⟨4,0,by omega,rfl,.inr (.inr (.inr (.inl ⟨rfl,rfl, {RC.ball {r with ch:=ch,fr:=ah fb,loose:=0} y with ch:=.slice C 0 c2},gb,csF,ys,cv,bv,xs,j1,⟨rfl,rfl,rfl,rfl,rfl,rfl⟩,j2,j3,j4,iq.tf h8 k1,h9.trans k1⟩)))⟩
   ·exact⟨0,3,by omega,rfl,.inr (.inr (.inr (.inr (.inr ⟨rfl,rfl,pI j1 hmb (by rw[hG];exact .inl ⟨hn,rfl⟩) (h9.trans k1)⟩))))⟩
  ·cases h
  ·cases h
  ·cases h
end
end Go.Proofs.YtigeofkllldilaaGreatDoor
