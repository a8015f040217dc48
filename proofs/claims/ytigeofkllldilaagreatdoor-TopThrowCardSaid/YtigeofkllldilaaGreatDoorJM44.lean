import Derived.Test.YtigeofkllldilaaGreatDoorJM37
import Derived.Test.YtigeofkllldilaaGreatDoorJM36
import Derived.Test.YtigeofkllldilaaGreatDoorJM41
import Derived.Test.YtigeofkllldilaaGreatDoorJM12
import Derived.Test.YtigeofkllldilaaGreatDoorJM43
set_option maxHeartbeats 32000000
set_option maxRecDepth 100000
set_option linter.unusedSectionVars false
open Go.Proofs.Tryz
namespace Go.Proofs.YtigeofkllldilaaGreatDoor
section
open Go.RowKit Go.Maps
variable[Base]
def iN:List TypeId:=[246,241]++FO
def Fl (ok:Bool):Int×List UInt8:=if ok then(1,[116,114,117,101])else(2,[])
def E1 (w0:World) (mb db ob:Nat) (s:List UInt8) (x y:Tm) (v:Value) (w:World):Prop:=
 ∃(B:Nat) (l:List (Int×List UInt8)) (spent:Int) (over:List UInt8),aS w B 31 2 kP v l/\l.length<=100000/\dF w mb db ob spent over/\TF iN w0 w/\(over≠[]\/∃ok,yC s x y ok/\l=[Fl ok])
theorem pK {tys tyB:List TypeId} {w0 u u':World} {vb:Nat} (hb:TF tyB w0 u) (hv:w0.heap.size<=vb) (hf:Fr (fun k=>k=vb\/fc tys u k) u u') (ht:∀t∈tys,t∈tyB):TF tyB w0 u':=by
 refine⟨⟨hf.os.trans hb.fr.os,hf.tape.trans hb.fr.tape,hf.output.trans hb.fr.output,Nat.le_trans hb.size hf.size,fun k hk hn=>?_⟩⟩
 refine(hf.block k (Nat.lt_of_lt_of_le hk hb.size) fun e=>?_).trans (hb.fr.block k hk hn)
 rcases e with e|⟨h0,t,h1,h2⟩
 ·omega
 ·exact hn (hb.back hk ⟨h0,t,ht t h1,h2⟩)
def H1 (w0:World) (rb db ob:Nat) (r:RC) (cs:List Sc) (w:World):Prop:=
 ∃fb cv bv xs,aT w rb {r with fr:=ah fb} [] db ob 0 []/\ea w fb ((0:Nat):Int) 0/\aL r.sb 40000 w cv bv xs cs []/\dz w r.bb rb/\TF iN w0 w
def H2 (w0:World) (rb db ob:Nat) (r:RC) (L:Bool->Prop) (ok:Bool) (w:World):Prop:=
 aT w rb {r with fr:=.pointer none,loose:=0} [] db ob 1 []/\L ok/\TF iN w0 w
def Fi (w0:World) (rb mb db ob:Nat) (s:List UInt8) (x y:Tm) (w:World):Prop:=∃r',bS w rb r'/\E1 w0 mb db ob s x y r'.ev w
def HI (w0:World) (rb mb db ob:Nat) (r:RC) (s:List UInt8) (x y:Tm) (n:Nat) (o:Int) (w:World):Prop:=
 (n=3/\o=0/\H1 w0 rb db ob r (cH (cR s x y)).2.cs w)\/(n=2/\o=Es true/\H2 w0 rb db ob r (yC s x y) true w)\/(n=2/\o=Es false/\H2 w0 rb db ob r (yC s x y) false w)\/(n=0/\o=3/\Fi w0 rb mb db ob s x y w)
theorem dz.fr {S:Nat->Prop} {u v:World} {bb rb:Nat} (h:dz u bb rb) (hf:Fr S u v) (hS:∀k,S k->k≠bb):dz v bb rb:=h.keep (hf.block _ h.lt fun e=>hS _ e rfl)
theorem dz.ty {u:World} {bb rb:Nat} (h:dz u bb rb) {tys:List TypeId} {k:Nat} (hk:fc tys u k):k≠bb:=by
 obtain⟨L,h1,-⟩:=h
 obtain⟨-,t,-,h2⟩:=hk
 exact(h1.ne h2).symm
end
section
open Go.RowKit Go.Maps
theorem EB (w:World):Calls prog 219 #[.string ⟨#[88]⟩,.string ⟨#[95]⟩] w fun e w'=>e=.returned (.bool false)/\w'=w:=by
 go_enter func219,ntmps219
 go_wp2_with fail
 go_ret
 exact⟨by kernel_rfl,rfl⟩
theorem EN (w:World):Calls prog 119 #[.string ⟨#[88]⟩,.string ⟨#[95]⟩] w fun e w'=>e=.returned (.bool false)/\w'=w:=by
 go_enter func119,ntmps119
 go_wp2_with fail
 refine(EB w).mono ?_
 rintro e w1 ⟨rfl,rfl⟩
 go_wp2_with fail
 go_ret
 exact⟨rfl,rfl⟩
theorem Eh {W:World} {S:Nat->Prop} {y:TV} {z:Int} (h:aI W S y (.mk 2 z [] [])):∃A c,y=⟨2,z,[],A,0,c⟩:=by
 generalize hg:Tm.mk 2 z [] []=G at h
 cases h with
 |mk _ args xs h1 h2 h3 hc ht=>
  obtain⟨k,n,s,A,l,c⟩:=y
  injection hg with q1 q2 q3 q4
  simp only at q1 q2 q3 h2
  subst q1 q2 q3 q4
  obtain rfl:l=0:=h2.symm
  exact⟨A,c,rfl⟩
theorem CN (w:World) (nb:Nat) (z:Int) (A:Option Addr) (c:Nat):Calls prog 240 #[ah nb,.agg #[ae 2,ae z,ai,.slice A 0 c]] w fun e w'=>e=.returned (.agg #[ae 2,ae z,ai,.slice A 0 c])/\aE w w':=by
 go_enter func240,ntmps240
 go_wp2_with fail
 obtain⟨W,hW⟩:∃W,W=((w.alloc (.cells #[ae 2,ae z,ai,.slice A 0 c] 27)).alloc (.cells #[ae 2,ae z,ai,.slice A 0 c] 27)):=⟨_,rfl⟩
 rw[<-hW]
 have hz:W.heap[w.heap.size+1]?=some (.cells #[ae 2,ae z,ai,.slice A 0 c] 27 (0,0)):=by
  rw[hW,<-World.size_alloc w (.cells #[ae 2,ae z,ai,.slice A 0 c] 27)]
  exact az
 have hb:aE w W:=by rw[hW];exact aB.alloc (by simp) _
 obtain⟨y0,y1,y2,y3,-⟩:=aH hz
 clear hW hz
 exact bodyPost_ret (v:=.agg #[ae 2,ae z,ai,.slice A 0 c]) (by simp[results,results240,go_sem,y0,y1,y2,y3]) rfl ⟨rfl,hb⟩
variable[Base]
omit[Base]in
theorem uE (z:Int):(gV z).length=1:=by unfold gV;split<;>rfl
def mH (z:Int):List UInt8:=[88,32,61,32]++gV z
theorem rB {rb db ob:Nat} {r:RC} {u:World} {l:List (Int×List UInt8)} {spent:Int} {over:List UInt8} {cv bv:Value} {xs:List ec} {cs:List Sc} {ys:List (Nat×Int)} {z:Int} {An:Option Addr} {cn:Nat} {m:List (Int×Int)} (hz:z=1\/z=2)
 (h:aT u rb r l db ob spent over) (hnm:r.nm=.slice An 1 cn) (hN:cO u An [([88],0)]) (hv:M6 u r.vb m) (hm:aP m 0=some 1) (hs:aL r.sb 40000 u cv bv xs (cD cs z) ys) (hp:kY cs) (ha:r.ans=0\/r.ans=1) (hmost:r.most=5) (hl:l.length+1<=100000):
 Calls prog 197 #[ah rb] u fun e u'=>e=.returned (ae 1)/\∃v,aT u' rb {r with ev:=v,ans:=r.ans+1} (l++[(1,mH z)]) db ob spent over/\TF rI u u':=by
 refine aa fun P hP=>?_
 have HP:=ad hP
 obtain⟨U,hU⟩:∃U,U=u.alloc (.cells #[.pointer none,aj] 398):=⟨_,rfl⟩
 have hbU:aE u U:=by rw[hU];exact aB
 have hBl:Lib.IsBuilder 398 5 u.heap.size u.heap.size (Lib.byteCells []) U:=by rw[hU];exact oE u
 have hmm:=qs U
 obtain⟨W,hW⟩:∃W,W=(U.alloc (.map #[] 0)).alloc (.cells #[.map (some U.heap.size),ae 0] 338):=⟨_,rfl⟩
 have hbW:aE U W:=by rw[hW];exact aB.alloc (by simp) _
 have hbuW:aE u W:=hbU.trans (hbW.mono hbU.size)
 have HW:Hid (Lib.IsBuilder 398 5 u.heap.size u.heap.size (Lib.byteCells []) W/\aE u W):=ad ⟨kV hBl hbW,hbuW⟩
 have c2:W.cell? (ak rb 2)=some (.slice An 1 cn):=((h.later hbuW).run.get 2).trans (by show some r.nm=_;rw[hnm])
 obtain⟨-,g,off,rfl,hg,n0,n1⟩:=hN 0 _ rfl
 simp only[Nat.zero_mul,Nat.add_zero]at n0 n1
 have HN:Hid (∀w,aE u w->w.cell? (ak g off)=some (.string ⟨#[88]⟩)/\w.cell? (ak g (off+1))=some (ae 0)):=ad fun w hb=>⟨(hb.cell (p:=(ak g off)) hg.lt).trans n0,(hb.cell (p:=(ak g (off+1))) hg.lt).trans n1⟩
 have HH:=ad (aD h (aD hv (aD hm (aD hs (aD hp (aD ha (aD hmost hl)))))))
 have HZ:=ad hz
 obtain⟨nb,hnb⟩:∃nb,nb=U.heap.size+1:=⟨_,rfl⟩
 clear h hnm hN hv hm hs hp ha hmost hl hP hbU hBl hbW hbuW n0 n1 hg hz
 go_enter func197,ntmps197
 go_upto_region 2 with fail
 rw[<-hU]
 clear hU
 go_upto_region 3 with fail
 rw[<-hW,<-hnb]
 clear hW hmm hnb
 go_wp2_with fail
 clear c2
 go_loopw [21] (fun i wr=>(i=ae 0/\Hid (Lib.IsBuilder 398 5 u.heap.size u.heap.size (Lib.byteCells []) wr/\aE u wr))\/(i=ae 1/\Hid (Lib.IsBuilder 398 5 u.heap.size u.heap.size (Lib.byteCells (mH z)) wr/\aE u wr))) (fun i _=>1-(intOf i).toNat)
 case atStart=>exact .inl ⟨rfl,HW⟩
 case round=>
  clear HW
  rcases hrel with⟨rfl,HE⟩|⟨rfl,HE⟩
  ·obtain⟨n0,n1⟩:=HN.out wr HE.2
   obtain⟨W1,hW1⟩:∃W1,W1=wr.alloc (.cells #[.string ⟨#[88]⟩,ae 0] 39):=⟨_,rfl⟩
   have hb1:aE wr W1:=by rw[hW1];exact aB
   have hz1:W1.heap[wr.heap.size]?=some (.cells #[.string ⟨#[88]⟩,ae 0] 39 (0,0)):=by rw[hW1];exact az
   obtain⟨xb,hxb⟩:∃xb,xb=wr.heap.size:=⟨_,rfl⟩
   rw[<-hxb]at hz1
   have y0:W1.cell? (ak xb 0)=some (.string ⟨#[88]⟩):=(cell_of_row _ _ 0 _ _ _ hz1).trans rfl
   have y1:W1.cell? (ak xb 1)=some (ae 0):=(cell_of_row _ _ 1 _ _ _ hz1).trans rfl
   have HB1:=ad (aD hb1 hz1)
   clear hb1 hz1
   go_upto_region 6 with fail
   rw[<-hxb,<-hW1]
   clear hW1 hxb n0 n1
   go_wp2_with fail
   refine(EN _).mono ?_
   rintro e w1 ⟨rfl,rfl⟩
   obtain⟨W2,hW2⟩:∃W2,W2=w1.alloc (.cells #[ae 1,ae (-1),ai,aj] 27):=⟨_,rfl⟩
   have hb2:aE w1 W2:=by rw[hW2];exact aB
   have hz2:W2.heap[w1.heap.size]?=some (.cells #[ae 1,ae (-1),ai,aj] 27 (0,0)):=by rw[hW2];exact az
   obtain⟨tb,htb⟩:∃tb,tb=w1.heap.size:=⟨_,rfl⟩
   rw[<-htb]at hz2
   have hbr2:aE wr W2:=HB1.1.trans (hb2.mono HB1.1.size)
   have hbu2:aE u W2:=HE.2.trans (hbr2.mono HE.2.size)
   have hzx:=(hb2.block _ (ap HB1.2).1).trans HB1.2
   have hge:wr.heap.size<=tb:=by rw[htb];exact HB1.1.size
   have v1:W2.cell? (ak xb 1)=some (ae 0):=(cell_of_row _ _ 1 _ _ _ hzx).trans rfl
   have r3:W2.cell? (ak rb 3)=some (.map (some r.vb)):=(HH.1.later hbu2).run.get 3
   have r1:W2.cell? (ak rb 1)=some (ah r.sb):=(HH.1.later hbu2).run.get 1
   have hlk:=(HH.2.1.later hbu2.drew).hit 0 ⟨by decide,by decide⟩ HH.2.2.1
   have HGE:Hid (Calls prog 173 #[ah r.sb,ae 1] W2.drew fun e w3=>∃A c,e=.returned (.tuple #[.agg #[ae 2,ae z,ai,.slice A 0 c],ae 0])/\aE W2 w3):=ad (by
    refine(pY (HH.2.2.2.1.later hbu2.drew) HH.2.2.2.2.1.bvnil HH.2.2.2.2.1.got (by simp[Tm.size,Tm.sizes])).mono ?_
    rintro e w3 ⟨y,rfl,k1,k2⟩
    obtain⟨A,c,rfl⟩:=Eh k1
    exact⟨A,c,rfl,aA.drew.trans k2⟩)
   have HB2:=ad (aD hbr2 (aD hz2 (aD hzx hge)))
   clear hb2 hz2 hbr2 hbu2 hzx hge HB1
   go_upto_region 8 with fail
   rw[<-htb,<-hW2]
   clear hW2 htb y0 y1
   go_region
   clear hlk v1 r3
   go_wp2_with fail
   refine HGE.mono ?_
   rintro e w3 ⟨A,c,rfl,hb3⟩
   obtain⟨W4,hW4⟩:∃W4,W4=w3.alloc (.cells #[ae 2,ae z,ai,.slice A 0 c] 27):=⟨_,rfl⟩
   have hb4:aE w3 W4:=by rw[hW4];exact aB
   have hz4:W4.heap[w3.heap.size]?=some (.cells #[ae 2,ae z,ai,.slice A 0 c] 27 (0,0)):=by rw[hW4];exact az
   have hb24:aE W2 W4:=hb3.trans (hb4.mono hb3.size)
   have hz24:=(hb24.block _ (ap HB2.2.1).1).trans HB2.2.1
   have hx24:=(hb24.block _ (ap HB2.2.2.1).1).trans HB2.2.2.1
   obtain⟨s0,s1,s2,s3,-⟩:=aH hz4
   obtain⟨q0,q1,q2,q3,qf⟩:=aH hz24
   have hlt:=(ap hz24).1
   have HB4:=ad (aD (HB2.1.trans (hb24.mono HB2.1.size)) (aD hz24 hx24))
   clear hb3 hb4 hz4 hb24 hz24 hx24 HGE r1
   go_upto_region 13 with fail
   rw[<-hW4]
   clear hW4
   go_upto_region 14 with fail
   obtain⟨X,hX⟩:∃X,X=((((W4.setCell (ak tb 0) (ae 2)).setCell (ak tb 1) (ae z)).setCell (ak tb 2) ai).setCell (ak tb 3) (.slice A 0 c)):=⟨_,rfl⟩
   have hXz:X.heap[tb]?=some (.cells #[ae 2,ae z,ai,.slice A 0 c] 27 (0,0)):=by rw[hX];exact bc HB4.2.1 rfl _ _ _ _
   have hXb:aE wr X:=by rw[hX];exact(((HB4.1.setCell (p:=(ak tb 0)) HB2.2.2.2 _).setCell (p:=(ak tb 1)) HB2.2.2.2 _).setCell (p:=(ak tb 2)) HB2.2.2.2 _).setCell (p:=(ak tb 3)) HB2.2.2.2 _
   have hXx:X.heap[xb]?=some (.cells #[.string ⟨#[88]⟩,ae 0] 39 (0,0)):=by rw[hX];exact(aM _ _ _ _ (aR.ne (t:=39) ⟨_,HB4.2.2⟩ (t':=27) ⟨_,HB4.2.1⟩ (by decide))).trans HB4.2.2
   rw[<-hX]
   clear hX s0 s1 s2 s3 q0 q1 q2 q3 qf hlt
   obtain⟨mb,hmb⟩:∃mb,mb=r.mb:=⟨_,rfl⟩
   have HSV:Hid (∀w,aE X w->(w.cell? (ak rb 0)=some (ah mb)/\w.cell? (ak mb 1)=some (ah ob))/\w.cell? (ak tb 0)=some (ae 2)/\w.cell? (ak tb 1)=some (ae z)/\w.cell? (ak tb 2)=some ai/\w.cell? (ak tb 3)=some (.slice A 0 c)):=ad fun w hw=>by
    have hr:=HH.1.later (HE.2.trans ((hXb.trans (hw.mono hXb.size)).mono HE.2.size))
    obtain⟨a,b,c,d,-⟩:=aH ((hw.block _ (ap hXz).1).trans hXz)
    have hm:=hr.mach.cells.1.2.1
    rw[<-hmb]at hm
    exact⟨⟨(hr.run.get 0).trans (by rw[hmb];rfl),hm⟩,a,b,c,d⟩
   have d0:=(Below.refl X.heap.size X).drew
   have HREN:Hid (∀w,aE X w->Calls prog 240 #[ah nb,.agg #[ae 2,ae z,ai,.slice A 0 c]] w fun e w'=>e=.returned (.agg #[ae 2,ae z,ai,.slice A 0 c])/\aE X w'):=ad fun w hw=>by
    refine(CN w nb z A c).mono ?_
    rintro e w' ⟨rfl,h1⟩
    exact⟨rfl,hw.trans (h1.mono hw.size)⟩
   have HPUT:Hid (∀w,aE X w->Calls prog 16 #[.agg #[ae 2,ae z,ai,.slice A 0 c],ae 1,ah ob] w fun e w'=>e=.returned (.tuple #[af (gV z),ae 0])/\aE X w'):=ad fun w hw=>by
    refine(DT HZ.out w ob A c).mono ?_
    rintro e w' ⟨rfl,h1⟩
    exact⟨rfl,hw.trans (h1.mono hw.size)⟩
   have HXX:=ad (aD hXb hXx)
   clear hXz hXb hXx hmb HB4 HB2
   go_region_held3 (fun w=>(w.cell? (ak rb 0)=some (ah mb)/\w.cell? (ak mb 1)=some (ah ob))/\w.cell? (ak tb 0)=some (ae 2)/\w.cell? (ak tb 1)=some (ae z)/\w.cell? (ak tb 2)=some ai/\w.cell? (ak tb 3)=some (.slice A 0 c))
    (first|(with_reducible exact HSV.out _ (by assumption)))
    (first|(go_at_call 240;with_reducible refine(HREN.out _ (by assumption)).mono ?_;rintro e w5 ⟨rfl,d1⟩)|(go_at_call 16;with_reducible refine(HPUT.out _ (by assumption)).mono ?_;rintro e w6 ⟨rfl,d2⟩))
   have hb6:aE wr w6:=HXX.1.trans (d2.mono HXX.1.size)
   have hx6:=(d2.block _ (ap HXX.2).1).trans HXX.2
   have x0:w6.cell? (ak xb 0)=some (.string ⟨#[88]⟩):=(cell_of_row _ _ 0 _ _ _ hx6).trans rfl
   have HB6:Hid (Lib.IsBuilder 398 5 u.heap.size u.heap.size (Lib.byteCells []) w6/\aE u w6):=ad ⟨kV HE.1 hb6,HE.2.trans (hb6.mono HE.2.size)⟩
   clear d0 d1 d2 hb6 hx6 HSV HREN HPUT HXX
   go_wp2_with fail
   refine(iG _ _ _ _ HB6.1).mono ?_
   rintro e w7 ⟨rfl,rfl⟩
   go_wp2_with fail
   refine(fE _ _ [] [88] _ HB6.1 (by simp) HB6.2.size).mono ?_
   rintro e w8 ⟨⟨v8,rfl⟩,k1,k2⟩
   have HB8:=ad (aD k1 (HB6.2.trans k2))
   clear k1 k2 x0 HB6
   go_wp2_with fail
   refine(fE _ _ ([]++[88]) [32,61,32] _ HB8.1 (by simp) HB8.2.size).mono ?_
   rintro e w9 ⟨⟨v9,rfl⟩,k1,k2⟩
   have HB9:=ad (aD k1 (HB8.2.trans k2))
   clear k1 k2 HB8
   go_wp2_with fail
   refine(fE _ _ (([]++[88])++[32,61,32]) (gV z) _ HB9.1 (by have:=uE z;simp;omega) HB9.2.size).mono ?_
   rintro e w10 ⟨⟨v10,rfl⟩,k1,k2⟩
   have HB10:Hid (Lib.IsBuilder 398 5 u.heap.size u.heap.size (Lib.byteCells (mH z)) w10/\aE u w10):=ad ⟨k1,HB9.2.trans k2⟩
   clear k1 k2 HB9
   go_wp2_with fail
   go_roundw
   case rel=>exact .inr ⟨rfl,HB10⟩
   case measure=>decide
  ·have hal:(mH z).length=5:=by unfold mH;rw[List.length_append,uE];rfl
   have HBL:Hid (Calls prog 282 #[ah u.heap.size] wr fun e w'=>e=.returned (ae 5)/\w'=wr):=ad (by
    have:=iG _ _ _ _ HE.1
    rw[hal]at this
    exact this)
   clear hal
   go_wp2_with fail
   refine HBL.mono ?_
   rintro e w1 ⟨rfl,rfl⟩
   go_wp2_with fail
   refine(Tryz.Builder_String_any _ _ (mH z) _ HE.1 HE.2.size).mono ?_
   rintro e w2 ⟨rfl,h3⟩
   have HB2:=ad (HE.2.trans h3)
   have HR2:=ad (HH.1.later HB2.out)
   clear h3
   go_wp2_with fail
   refine(gJ w2 rb r l 1 (mH z) HR2.run HR2.ev HR2.few.1 HR2.few.2.1).mono ?_
   rintro e w3 ⟨rfl,v3,g1,g2,g3⟩
   have HR3:Hid (aT w3 rb {r with ev:=v3} (l++[(1,mH z)]) db ob spent over/\TF rI u w3):=ad ⟨⟨g1,g2,(g3.block ⟨_,HR2.mach⟩ (by decide)).trans HR2.mach,by simpa using HH.2.2.2.2.2.2.2,HR2.few.2⟩,(TF.of_below rI HB2.out).trans (g3.mono (by decide))⟩
   clear g1 g2 g3
   obtain⟨an,han⟩:∃an,an=r.ans:=⟨_,rfl⟩
   have HAN:=ad han
   have c5:w3.cell? (ak rb 5)=some (ae an):=(HR3.1.run.get 5).trans (by rw[han];rfl)
   have hwa:IntKind.i64.wrap (an+1)=an+1:=IntWalk.i64_in _ (by have:=HH.2.2.2.2.2.1;rw[<-han]at this;omega)
   have hne:(an+1==5)=false:=beq_false_of_ne (by have:=HH.2.2.2.2.2.1;rw[<-han]at this;omega)
   have cf:=HR3.1.run.fz
   have hlt:=HR3.1.run.lt
   obtain⟨X,hX⟩:∃X,X=w3.setCell (ak rb 5) (ae (an+1)):=⟨_,rfl⟩
   have h9:=HR3.1.put (r':= {r with ev:=v3,ans:=an+1}) 5 (ae (an+1)) rfl rfl rfl
   rw[<-hX]at h9
   have HX:Hid (aT X rb {r with ev:=v3,ans:=an+1} (l++[(1,mH z)]) db ob spent over/\TF rI u X):=ad ⟨h9.1,HR3.2.trans (h9.2.mono (by decide))⟩
   clear h9 han
   go_upto_region 27 with fail
   rw[<-hX]
   clear hX c5 cf hlt
   have d5:X.cell? (ak rb 5)=some (ae (an+1)):=HX.1.run.get 5
   have d4:X.cell? (ak rb 4)=some (ae 5):=(HX.1.run.get 4).trans (by show some (ae r.most)=_;rw[HH.2.2.2.2.2.2.1])
   go_region
   go_wp2_with fail
   have HQ:Hid (P (.returned (ae 1)) X.drew):=ad (by
    rw[HP.out,<-HAN.out]
    have hb:aE X X.drew:=aA.drew
    exact⟨rfl,v3,HX.1.later hb,HX.2.later hb⟩)
   exact HQ.out
end
section
open Go.RowKit Go.Maps
def vP (q:Nat):List Int:=(List.range q).map fun(i:Nat)=>(i:Int)
theorem wE (q:Nat):vP (q+1)=vP q++[(q:Int)]:=by simp[vP,List.range_succ]
theorem BA (q:Nat):(vP q).length=q:=by simp[vP]
def uz (w:World) (db mb q:Nat) (wr:World):Prop:=
 ∃es A c cls ov,jt w db mb (q:Nat) es A c cls ov (vP q) aj [] wr/\cls.length=q/\∀(i:Nat) (cc:im),cls[i]?=some cc->cc.birth=(i:Int)+1/\cc.death= -1
theorem uz.later {w u u':World} {db mb q:Nat} (h:uz w db mb q u) (hb:aE u u'):uz w db mb q u':=by
 obtain⟨es,A,c,cls,ov,h1,h2⟩:=h
 exact⟨es,A,c,cls,ov,h1.later hb,h2⟩
theorem uz.start {w u:World} (h:eO u (w.heap.size+1) w.heap.size 0 [] aj) (hb:aE w u):uz w (w.heap.size+1) w.heap.size 0 u:=
 ⟨[],none,0,[],aj,⟨h,aS.nil _ _ _ _ _,aS.nil _ _ _ _ _,aS.nil _ _ _ _ _,fun g hg=>by simp[Value.ownBlock]at hg,.inl ⟨rfl,rfl,rfl,rfl⟩,fun i cc hi=>by simp at hi,Nat.le_succ _,aC,hb⟩,rfl,fun i cc hi=>by simp at hi⟩
theorem uz.add {w u:World} {db mb q:Nat} {α:Type} {B sz:Nat} {enc:α->List Value} {tv:Value} {ts:List α} (h:uz w db mb q u) (hq:q<2) (hr:aS u B 139 sz enc tv ts) (x y:TV)
 (hx:aI u (aR u 27) x (.mk 4 0 [112] [.mk 2 ((q+1:Nat):Int) [] []])) (hy:aI u (aR u 27) y (.mk 3 0 EE [])):
 Calls prog 36 #[ah db,aU x,aU y,.bool false,.bool true] u fun e u'=>e=.returned (.tuple #[ae (q:Nat),ae 0])/\uz w db mb (q+1) u'/\aS u' B 139 sz enc tv ts:=by
 obtain⟨es,A,c,cls,ov,h1,rfl,h3⟩:=h
 refine(Cz w u db mb _ es A c cls ov _ _ _ h1 x y hx hy (by omega) (by rw[BA];omega) ⟨by omega,by omega⟩).mono ?_
 rintro e u' ⟨rfl,⟨es',A',c',cc,ov',e1,e2,h4⟩,hf⟩
 refine⟨rfl,⟨es',A',c',cls++[cc],ov',?_,by simp,fun i c2 hi=>?_⟩,hr.keep fun g hg=>hf.block g (hr.ty hg).lt (uv h1 (hr.ty hg) (by decide))⟩
 ·rw[wE]
  exact h4
 ·rw[List.getElem?_append]at hi
  split at hi
  ·exact h3 i c2 hi
  ·rename_i hl
   have:i-cls.length=0:=by
    rcases Nat.eq_zero_or_pos (i-cls.length)with h|h
    ·exact h
    ·rw[List.getElem?_eq_none (by simp;omega)]at hi
     cases hi
   rw[this]at hi
   obtain rfl:cc=c2:=by simpa using hi
   exact⟨by rw[e1,show i=cls.length by omega],e2⟩
theorem AC (w:World) (T:List UInt8) (N:Nat) (hT:tD T) (hE:mO w) (hN:vp (gF T).1 N):
 Calls prog 20 #[af T] w fun e w'=>∃db mb,e=.returned (ah db)/\uz w db mb N w':=by
 refine aa fun P hP=>?_
 have HP:=ad hP
 have HE:=ad hE
 have HN:=ad hN
 have hN2:=hN.le
 clear hP hE hN
 go_enter func20,ntmps20
 go_wp2_with fail
 refine(wk w).mono ?_
 rintro e w1 ⟨rfl,hD,hb1⟩
 have HS1:=ad (uz.start hD hb1)
 have HE1:=ad (HE.later hb1)
 have HB1:=ad hb1
 clear hD hb1
 go_wp2_with fail
 refine(C8 w1 T hT).mono ?_
 rintro e w2 ⟨tv,rfl,hr,hb2⟩
 obtain⟨An,cn,rfl⟩:=hr.shape
 have HS2:=ad (HS1.later hb2)
 have HE2:=ad (HE1.later hb2)
 have HR2:=ad hr
 obtain⟨ts,hts⟩:∃ts,ts=(gF T).1:=⟨_,rfl⟩
 obtain⟨tl,htl⟩:∃tl,tl=(gF T).2.1:=⟨_,rfl⟩
 obtain⟨te,hte⟩:∃te,te=(gF T).2.2:=⟨_,rfl⟩
 rw[<-hts]at HN HR2⊢
 rw[<-htl,<-hte]
 clear hts htl hte hr hb2 HS1 HE1 hT
 go_wp2_with fail
 refine(py w2 HE2.kinds HE2.tab).mono ?_
 rintro e w3 ⟨bt,bm,rfl,-,-,-,-,hb3⟩
 obtain⟨db,hdb⟩:∃db,db=w.heap.size+1:=⟨_,rfl⟩
 obtain⟨mb,hmb⟩:∃mb,mb=w.heap.size:=⟨_,rfl⟩
 rw[<-hdb,<-hmb]at HS2
 rw[<-hdb]
 have HI0:=ad (aD (HS2.later hb3) (HR2.later hb3))
 clear hb3 HS2 HE2 HR2 HB1 hdb hmb HE
 obtain⟨B,hB⟩:∃B,B=w1.heap.size:=⟨_,rfl⟩
 rw[<-hB]at HI0
 clear hB
 go_wp2_with fail
 go_loopw [8,9] (fun a i wr=>∃q:Nat,q<=N/\a=ae ((5*q:Nat):Int)/\i=ae (q:Nat)/\Hid (uz w db mb q wr/\aS wr B 139 6 bC (.slice An ts.length cn) ts)) (fun _ i _=>N-(intOf i).toNat)
 case atStart=>exact⟨0,Nat.zero_le _,rfl,rfl,HI0⟩
 case round=>
  obtain⟨q,hq,rfl,rfl,HI⟩:=hrel
  clear HI0
  have hq40:(q:Int)<40:=by omega
  have HTK:=ad (qW HI.2)
  by_cases hlt:q<N
  ·have HPT:=ad (HN.at' q hlt)
   have HRD:=ad (yW wr An ts.length cn ts HTK.out HN.few (5*q) bt ((q+1:Nat):Int) HPT.1 HPT.2.1 HPT.2.2 (by omega))
   clear HTK HPT
   go_wp2_with fail
   refine HRD.mono ?_
   rintro e u1 ⟨hb1,x,nv,B',rfl,hx,hnv⟩
   obtain⟨Av,cv,rfl⟩:=hnv.shape
   obtain⟨An',cx,bx,ox,rfl,-⟩:=mR hx
   obtain⟨nx,hnx⟩:∃nx:Int,nx=((5*q+4:Nat):Int)+1:=⟨_,rfl⟩
   obtain⟨ln,hln⟩:∃ln:Int,ln=(bg ts (5*q)).line:=⟨_,rfl⟩
   have HX1:=ad (show aI u1 (aR u1 27) ⟨4,0,[112],An',1,cx⟩ (.mk 4 0 [112] [iv ((q+1:Nat):Int)])from hx)
   have HI1:=ad (aD (HI.1.later hb1) (HI.2.later hb1))
   dsimp only[BO]
   rw[<-hnx,<-hln]
   have HNX:=ad hnx
   clear hnx hnv
   obtain⟨U,hU⟩:∃U,U=u1.alloc (.cells #[ae 4,ae 0,.string ⟨#[112]⟩,.slice An' 1 cx,.slice Av 0 cv,ae ln,ae nx] 43):=⟨_,rfl⟩
   have hbU:aE u1 U:=by rw[hU];exact aB
   have hz:U.heap[u1.heap.size]?=some (.cells #[ae 4,ae 0,.string ⟨#[112]⟩,.slice An' 1 cx,.slice Av 0 cv,ae ln,ae nx] 43 (0,0)):=by rw[hU];exact az
   obtain⟨z0,z1,z2,z3,z4,z5,z6,zf⟩:=eU hz
   have HIU:=ad (aD (HI1.1.later hbU) (HI1.2.later hbU))
   have HXU:Hid (aI U (CK U fun _=>True) ⟨4,0,[112],An',1,cx⟩ (.mk 4 0 [112] [iv ((q+1:Nat):Int)])):=ad (HX1.keep (fun b hb=>⟨hb.keep (hbU.block b hb.lt),trivial⟩) fun b hb=>hbU.block b hb.lt)
   clear hx hb1 HI HI1 HX1 hbU hz hln HRD z4 z5
   go_upto_region 8 with fail
   rw[<-hU]
   clear hU
   go_wp2_with fail
   refine(sW U (fun _=>True) ⟨4,0,[112],An',1,cx⟩ _ HXU.out (sZ (by simp[iv,Tm.may,Tm.mays,eR])) (by simp[iv,Tm.size,Tm.sizes]) rfl (show([112]:List UInt8)≠[58,45]by decide)).mono ?_
   rintro e u2 ⟨y,z,rfl,hy,hz,hb2⟩
   have HY2:Hid (aI u2 (aR u2 27) y (.mk 4 0 [112] [iv ((q+1:Nat):Int)])):=ad (hy.keep (fun b hb=>hb.1) fun b hb=>rfl)
   obtain⟨Ay,cy,by',oy,rfl,-⟩:=mR HY2.out
   have HZ2:Hid (aI u2 (aR u2 27) z zi):=ad (hz.keep (fun b hb=>hb.1) fun b hb=>rfl)
   obtain⟨kz,nz,sz,Az,lz,cz⟩:=z
   have HI2:=ad (aD (HIU.1.later hb2) (HIU.2.later hb2))
   clear hy hz hb2 HIU HXU z0 z1 z2 z3 z6 zf
   unfold aU sm
   dsimp only
   obtain⟨W,hW⟩:∃W,W=((u2.alloc (.cells #[ae 4,ae 0,.string ⟨#[112]⟩,.slice Ay 1 cy] 27)).alloc (.cells #[ae kz,ae nz,af sz,.slice Az lz cz] 27)).alloc (.cells #[ae 0,ae 0,ai,aj] 27):=⟨_,rfl⟩
   have hbW:aE u2 W:=by rw[hW];exact(aB.alloc (by simp) _).alloc (by simp<;>omega) _
   have hy3:W.heap[u2.heap.size]?=some (.cells #[ae 4,ae 0,.string ⟨#[112]⟩,.slice Ay 1 cy] 27 (0,0)):=by
    rw[hW,aw _ _ _ (by simp<;>omega),aw _ _ _ (by simp)]
    exact az
   have hz3:W.heap[u2.heap.size+1]?=some (.cells #[ae kz,ae nz,af sz,.slice Az lz cz] 27 (0,0)):=by
    rw[hW,aw _ _ _ (by simp)]
    have:=heap_alloc_new (u2.alloc (.cells #[ae 4,ae 0,.string ⟨#[112]⟩,.slice Ay 1 cy] 27)) (.cells #[ae kz,ae nz,af sz,.slice Az lz cz] 27)
    rwa[World.size_alloc]at this
   have HI3:=ad (aD (HI2.1.later hbW) (HI2.2.later hbW))
   have HY3:=ad (HY2.keep (w':=W) (S':=aR W 27) (fun b hb=>hb.keep (hbW.block b hb.lt)) fun b hb=>hbW.block b hb.lt)
   have HZ3:=ad (HZ2.keep (w':=W) (S':=aR W 27) (fun b hb=>hb.keep (hbW.block b hb.lt)) fun b hb=>hbW.block b hb.lt)
   obtain⟨y0,y1,y2,y3,-⟩:=aH hy3
   have HHY:=ad (aD hy3 hz3)
   clear hbW HI2 HY2 HZ2 hy3 hz3
   go_upto_region 12 with fail
   rw[<-hW]
   clear hW
   go_wp2_with fail
   refine(Cx W).mono ?_
   rintro e w5 ⟨rfl,hb5⟩
   have HI5:=ad (aD (HI3.1.later hb5) (HI3.2.later hb5))
   have HY5:=ad (HY3.keep (w':=w5) (S':=aR w5 27) (fun b hb=>hb.keep (hb5.block b hb.lt)) fun b hb=>hb5.block b hb.lt)
   have HZ5:=ad (HZ3.keep (w':=w5) (S':=aR w5 27) (fun b hb=>hb.keep (hb5.block b hb.lt)) fun b hb=>hb5.block b hb.lt)
   have HH5:=ad (aD ((hb5.block _ (ap HHY.1).1).trans HHY.1) ((hb5.block _ (ap HHY.2).1).trans HHY.2))
   clear y0 y1 y2 y3 hb5 HI3 HY3 HZ3 HHY
   obtain⟨y0,y1,y2,y3,-⟩:=aH HH5.1
   obtain⟨z0,z1,z2,z3,-⟩:=aH HH5.2
   have HAD:=ad (HI5.1.add (by omega) HI5.2 ⟨4,0,[112],Ay,1,cy⟩ ⟨kz,nz,sz,Az,lz,cz⟩ HY5.out HZ5.out)
   go_wp2_with fail
   refine HAD.mono ?_
   rintro e w6 ⟨rfl,hl6,hr6⟩
   have hwq:IntKind.i64.wrap ((q:Int)+1)=(q:Int)+1:=IntWalk.i64_in _ (by omega)
   have HI6:=ad (aD hl6 hr6)
   have hnx':nx=((5*(q+1):Nat):Int):=by rw[HNX.out];omega
   have HNX':=ad hnx'
   clear y0 y1 y2 y3 z0 z1 z2 z3 HI5 HY5 HZ5 HH5 HAD hl6 hr6 HNX hnx' hq40
   go_wp2_with fail
   go_roundw
   case rel=>exact⟨q+1,hlt,by rw[HNX'.out],rfl,HI6⟩
   case measure=>
    simp only[intOf]
    omega
  ·obtain rfl:q=N:=by omega
   have HRE:=ad (yR wr An ts.length cn ts HTK.out ((5*q:Nat):Int) bt (Du []) (.inr (.inr (by rw[Int.toNat_natCast];exact HN.fin))))
   have hre:qC (Du []) ts ((5*q:Nat):Int)=(⟨aQ,[],0,0⟩,7):=by
    unfold qC
    rw[if_pos (.inr (.inr (by rw[Int.toNat_natCast];exact HN.fin)))]
   rw[hre]at HRE
   clear HTK hre hlt
   go_wp2_with fail
   refine HRE.mono ?_
   rintro e u1 ⟨hb1,x,nv,B',rfl,hx,hnv⟩
   obtain⟨Av,cv,rfl⟩:=hnv.shape
   obtain⟨k1,n1,s1,A1,l1,c1⟩:=x
   have HI1:=ad (HI.1.later hb1)
   dsimp only[BO]
   obtain⟨U,hU⟩:∃U,U=u1.alloc (.cells #[ae k1,ae n1,af s1,.slice A1 l1 c1,.slice Av 0 cv,ae 0,ae 0] 43):=⟨_,rfl⟩
   have HIU:=ad (HI1.later (by rw[hU];exact(Below.refl u1.heap.size u1).alloc aC (.cells #[ae k1,ae n1,af s1,.slice A1 l1 c1,.slice Av 0 cv,ae 0,ae 0] 43):aE u1 U))
   clear hx hnv HI HI1 HRE hb1
   go_upto_region 8 with fail
   rw[<-hU]
   clear hU
   go_wp2_with fail
   show P _ _
   rw[HP.out]
   exact⟨db,mb,rfl,HIU.out⟩
def lY:Tm:=.mk 4 0 [112] [jk 0]
theorem xF {W:World} {cb:Nat} {x0 x1 x2 x3 x4 x5 x6:Value} (hC:W.heap[cb]?=some (.cells #[x0,x1,x2,x3,x4,x5,x6] 43 (0,0))) (a0 a1 a2 a3 a4 a5 a6:Value):
 (((((((W.setCell (ak cb 0) a0).setCell (ak cb 1) a1).setCell (ak cb 2) a2).setCell (ak cb 3) a3).setCell (ak cb 4) a4).setCell (ak cb 5) a5).setCell (ak cb 6) a6).heap[cb]?=some (.cells #[a0,a1,a2,a3,a4,a5,a6] 43 (0,0)):=nl hC _ _ _ _ _ _ _
theorem wJ (w:World) (hE:mO w):
 Calls prog 13 #[.string ⟨#[112,40,88,41]⟩] w fun e w'=>∃x nv B line next,e=.returned (.tuple #[BO x nv line next,.bool true])/\aI w' (aR w' 27) x lY/\aS w' B 39 2 lW nv [([88],0)]/\aE w w':=by
 refine aa fun P hP=>?_
 have HP:=ad hP
 obtain⟨U0,hU0⟩:∃U,U=w.alloc (.cells #[ae 0,ae 0,ai,aj,aj,ae 0,ae 0] 43):=⟨_,rfl⟩
 have hb0:aE w U0:=by rw[hU0];exact aB
 have hc0:U0.heap[w.heap.size]?=some (.cells #[ae 0,ae 0,ai,aj,aj,ae 0,ae 0] 43 (0,0)):=by rw[hU0];exact az
 have HB0:=ad hb0
 have HC0:=ad hc0
 have HE:=ad (hE.later hb0)
 clear hP hE hb0 hc0
 go_enter func13,ntmps13
 go_upto_region 1 with fail
 rw[<-hU0]
 clear hU0
 go_wp2_with fail
 refine(C8 U0 Ck (.inr (.inl rfl))).mono ?_
 rintro e w2 ⟨tv,rfl,hr,hb2⟩
 rw[BY]at hr⊢
 dsimp only at hr⊢
 obtain⟨An,cn,rfl⟩:=hr.shape
 have HR2:=ad hr
 have HE2:=ad (HE.later hb2)
 have HB2:=ad (HB0.trans (hb2.mono HB0.size))
 have HC2:=ad ((hb2.block _ (ap HC0.out).1).trans HC0.out)
 clear hr hb2 HB0 HC0 HE
 go_wp2_with fail
 refine(py w2 HE2.kinds HE2.tab).mono ?_
 rintro e w3 ⟨bt,bm,rfl,-,-,-,-,hb3⟩
 have HRD:=ad (zu w3 An xm.length cn xm (qW (HR2.later hb3)) (by decide) 0 bt Cw rfl rfl)
 have HB3:=ad (HB2.trans (hb3.mono HB2.size))
 have HC3:=ad ((hb3.block _ (ap HC2.out).1).trans HC2.out)
 clear hb3 HR2 HE2 HB2 HC2
 go_wp2_with fail
 refine HRD.mono ?_
 rintro e u1 ⟨hb1,x,nv,B',rfl,hx,hnv⟩
 obtain⟨Av,cv,rfl⟩:=hnv.shape
 obtain⟨k1,n1,s1,A1,l1,c1⟩:=x
 obtain⟨nx,hnx⟩:∃nx:Int,nx=((0+4:Nat):Int)+1:=⟨_,rfl⟩
 obtain⟨ln,hln⟩:∃ln:Int,ln=(bg xm 0).line:=⟨_,rfl⟩
 dsimp only[BO]
 rw[<-hnx,<-hln]
 clear hnx hln HRD
 obtain⟨U,hU⟩:∃U,U=u1.alloc (.cells #[ae k1,ae n1,af s1,.slice A1 l1 c1,.slice Av 1 cv,ae ln,ae nx] 43):=⟨_,rfl⟩
 have hbU:aE u1 U:=by rw[hU];exact aB
 have hz:U.heap[u1.heap.size]?=some (.cells #[ae k1,ae n1,af s1,.slice A1 l1 c1,.slice Av 1 cv,ae ln,ae nx] 43 (0,0)):=by rw[hU];exact az
 obtain⟨z0,z1,z2,z3,z4,z5,z6,zf⟩:=eU hz
 have hC1:=(hbU.block _ (Nat.lt_of_lt_of_le (ap HC3.out).1 hb1.size)).trans ((hb1.block _ (ap HC3.out).1).trans HC3.out)
 obtain⟨y0,y1,y2,y3,y4,y5,y6,yf⟩:=eU hC1
 have hcl:=(ap hC1).1
 have HC:=ad hC1
 have HX:=ad (show aI u1 (aR u1 27) ⟨k1,n1,s1,A1,l1,c1⟩ lY from hx)
 have HN:=ad (show aS u1 B' 39 2 lW (.slice Av 1 cv) [([88],0)]from hnv)
 have HB1:=ad (HB3.trans (hb1.mono HB3.size))
 have HBU:=ad hbU
 clear hx hnv hb1 hbU hC1 hz HB3 HC3
 go_upto_region 3 with fail
 rw[<-hU]
 clear hU
 go_wp2_with fail
 obtain⟨WF,hWF⟩:∃WF,WF=((((((U.setCell (ak w.heap.size 0) (ae k1)).setCell (ak w.heap.size 1) (ae n1)).setCell (ak w.heap.size 2) (af s1)).setCell (ak w.heap.size 3) (.slice A1 l1 c1)).setCell (ak w.heap.size 4) (.slice Av 1 cv)).setCell (ak w.heap.size 5) (ae ln)).setCell (ak w.heap.size 6) (ae nx):=⟨_,rfl⟩
 have hF:=xF HC.out (ae k1) (ae n1) (af s1) (.slice A1 l1 c1) (.slice Av 1 cv) (ae ln) (ae nx)
 have hfr:Fr (fun k=>k=w.heap.size) U WF:=by rw[hWF];exact Cv (S:=fun k=>k=w.heap.size) (Fr.refl _ _) rfl _ _ _ _ _ _ _
 rw[<-hWF]at hF⊢
 have hty:∀ {t:TypeId} {b:Nat},aR u1 t b->t≠43->WF.heap[b]?=u1.heap[b]?:=fun h hn=>(hfr.block _ (Nat.lt_of_lt_of_le h.lt HBU.size) fun e=>(h.keep (HBU.block _ h.lt)).ne ⟨_,HC.out⟩ hn e).trans (HBU.block _ h.lt)
 obtain⟨q0,q1,q2,q3,q4,q5,q6,-⟩:=eU hF
 refine bodyPost_ret (v:=.tuple #[BO ⟨k1,n1,s1,A1,l1,c1⟩ (.slice Av 1 cv) ln nx,.bool true]) (by simp[results,results13,go_sem,q0,q1,q2,q3,q4,q5,q6,BO]) rfl ?_
 rw[HP.out]
 exact⟨_,_,B',ln,nx,rfl,HX.keep (fun b hb=>hb.keep (hty hb (by decide))) fun b hb=>hty hb (by decide),HN.keep fun g hg=>hty (HN.ty hg) (by decide),(HB1.trans (HBU.mono HB1.size)).trans (hfr.below (Nat.le_trans HB1.size HBU.size) fun k hk e=>by omega)⟩
end
end Go.Proofs.YtigeofkllldilaaGreatDoor
