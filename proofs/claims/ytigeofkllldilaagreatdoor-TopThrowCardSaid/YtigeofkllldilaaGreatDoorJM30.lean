import Derived.Test.YtigeofkllldilaaGreatDoorJM28
set_option maxHeartbeats 32000000
set_option maxRecDepth 100000
set_option linter.unusedSectionVars false
open Go.Proofs.Tryz
namespace Go.Proofs.YtigeofkllldilaaGreatDoor
section
open Go.RowKit Go.Maps
theorem mP:∀(n f f':Nat) (t:Tm),t.size<=n->t.size<=f->t.size<=f'->cQ f t=cQ f' t
 |0,_,_,t,h,_,_=>by have:=bL t;omega
 |n+1,f,f',t,h,h1,h2=>by
  have:=bL t
  obtain⟨f,rfl⟩:∃k,f=k+1:=⟨f-1,by omega⟩
  obtain⟨f',rfl⟩:∃k,f'=k+1:=⟨f'-1,by omega⟩
  unfold cQ
  by_cases hc:dj t=true
  ·rw[if_pos hc,if_pos hc]
   have hl:=(dC hc).2.2
   have ha:=dZ (t:=t) (i:=1) (by omega)
   rw[mP n f f' (t.args.getD 1 aQ) (by omega) (by omega) (by omega)]
  ·rw[if_neg hc,if_neg hc]
theorem nJ {t:Tm} (hc:dj t=true):cQ t.size t=(t.args.getD 0 aQ::(cQ (t.args.getD 1 aQ).size (t.args.getD 1 aQ)).1,(cQ (t.args.getD 1 aQ).size (t.args.getD 1 aQ)).2):=by
 have:=bL t
 have hl:=(dC hc).2.2
 have ha:=dZ (t:=t) (i:=1) (by omega)
 obtain⟨f,hf⟩:∃k,t.size=k+1:=⟨t.size-1,by omega⟩
 rw[hf]
 conv=>lhs;unfold cQ
 rw[if_pos hc,mP _ f (t.args.getD 1 aQ).size (t.args.getD 1 aQ) aC (by omega) aC]
theorem vH {t:Tm} (hc:dj t=false):cQ t.size t=([],t):=by
 have:=bL t
 obtain⟨f,hf⟩:∃k,t.size=k+1:=⟨t.size-1,by omega⟩
 rw[hf]
 unfold cQ
 rw[if_neg (by rw[hc];decide)]
theorem mQ {t:Tm} (hc:dj t=true):t.size=1+(t.args.getD 0 aQ).size+(t.args.getD 1 aQ).size:=by
 have hl:=(dC hc).2.2
 have hs:=bE t
 obtain⟨k,n,s,l⟩:=t
 simp only[Tm.args]at hl hs⊢
 match l,hl with
 |[a,b],_=>
  rw[hs]
  simp[Tm.sizes]
  omega
theorem jh {w:World} {B:Nat} {x:TV} {t:Tm} (h:aO w B x t) (hc:dj t=true):
 ∃b off a0 a1,x.len=2/\x.A=some (ak b off)/\b<B/\aO w B a0 (t.args.getD 0 aQ)/\aO w B a1 (t.args.getD 1 aQ)∧
  (w.cell? (ak b off)=some (ae a0.k)/\w.cell? (ak b (off+1))=some (ae a0.n)/\w.cell? (ak b (off+2))=some (af a0.s)/\w.cell? (ak b (off+3))=some (.slice a0.A a0.len a0.cap))∧
  (w.cell? (ak b (off+4))=some (ae a1.k)/\w.cell? (ak b (off+4+1))=some (ae a1.n)/\w.cell? (ak b (off+4+2))=some (af a1.s)/\w.cell? (ak b (off+4+3))=some (.slice a1.A a1.len a1.cap)):=by
 obtain⟨k1,k2,k3,k4,k5,ka⟩:=h.open
 obtain⟨-,-,hl⟩:=dC hc
 have e0:t.args[0]?=some (t.args.getD 0 aQ):=by rw[List.getD_eq_getElem?_getD,au (by omega)];rfl
 have e1:t.args[1]?=some (t.args.getD 1 aQ):=by rw[List.getD_eq_getElem?_getD,au (by omega)];rfl
 obtain⟨a0,b,off,hA,hb,ht0,hc0⟩:=ka 0 _ e0
 obtain⟨a1,b',off',hA',hb',ht1,hc1⟩:=ka 1 _ e1
 rw[hA]at hA'
 injection hA' with hA'
 injection hA' with q1 q2
 subst q1 q2
 have z:=fun j u hu=>hc0 j u hu
 simp only[Nat.zero_mul,Nat.add_zero,Nat.one_mul]at z hc1
 exact⟨b,off,a0,a1,by omega,hA,hb,ht0,ht1,⟨z 0 _ rfl,z 1 _ rfl,z 2 _ rfl,z 3 _ rfl⟩,⟨hc1 0 _ rfl,hc1 1 _ rfl,hc1 2 _ rfl,hc1 3 _ rfl⟩⟩
structure DZ (g:Tm->Int->List UInt8) (u:World) (B0 B wb bt bm:Nat) (es:List (dh×dv)) (way:Int) (acc:List UInt8) (q:Nat) (t:Tm) (y:TV) (ty:Tm) (dn:List Tm) (w:World):Prop where
 box:w.heap[q]?=some (.cells #[ae y.k,ae y.n,af y.s,.slice y.A y.len y.cap] 27 (0,0))
 k:jn w B0 B wb bt bm es way (acc++91::bG g dn)
 tm:aO w B0 y ty
 fr:Fr (bJ u B wb) u w
 wf:iF ty
 lenB:(acc++91::bG g dn).length+6000*ty.size+1<=10000000000
 sz:ty.size<t.size
 ne:dn≠[]
 eq:cQ t.size t=(dn++(cQ ty.size ty).1,(cQ ty.size ty).2)
theorem jn.box {w:World} {B0 B wb bt bm q:Nat} {es:List (dh×dv)} {way:Int} {acc:List UInt8} (h:jn w B0 B wb bt bm es way acc) {cs:Array Value} (hq:w.heap[q]?=some (.cells cs 27 (0,0))) (hB:B0<=q) (a0 a1 a2 a3:Value):
 jn ((((w.setCell (ak q 0) a0).setCell (ak q 1) a1).setCell (ak q 2) a2).setCell (ak q 3) a3) B0 B wb bt bm es way acc:=by
 have hne:=h.ne hq (by decide)
 have hb:∀k,k≠q->((((w.setCell (ak q 0) a0).setCell (ak q 1) a1).setCell (ak q 2) a2).setCell (ak q 3) a3).heap[k]?=w.heap[k]?:=fun k hk=>aM a0 a1 a2 a3 hk
 obtain⟨A,c,k1,k2⟩:=h.at'.blk
 refine⟨⟨⟨A,c,(hb wb (fun e=>hne e.symm)).trans k1,k2.keep fun k hk=>hb k ?_⟩,h.at'.wbB⟩,?_,h.lo,h.b0,?_⟩
 ·rintro rfl
  exact aR.ne ⟨_,hq⟩ (k2.ty hk) (by decide) rfl
 ·refine h.env.keep h.lo ?_
  exact((((Below.refl B0 w).setCell (p:=(ak q 0)) hB _).setCell (p:=(ak q 1)) hB _).setCell (p:=(ak q 2)) hB _).setCell (p:=(ak q 3)) hB _
 ·simpa using h.bu
theorem xp {es:List (dh×dv)} {way:Int} {n:Nat} (hC:jB es way n) (u:World) (B0 B wb bt bm:Nat) (acc:List UInt8) (x:TV) (t:Tm) (hn:t.size<=n+1) (hw:iF t) (hx:aO u B0 x t) (hc:dj t=true) (hK:jn u B0 B wb bt bm es way acc) (hlen:acc.length+6000*t.size<=10000000000):
 Calls prog 139 #[ah wb,aU x] u fun e u'=>e=am/\cw u' B wb bt way (acc++lM (gM es way) t)/\Fr (bJ u B wb) u u':=by
 obtain⟨g,hg⟩:∃g,g=gM es way:=⟨_,rfl⟩
 have hgl:∀y:Tm,iF y->∀m,(g y m).length<=6000*y.size:=fun y hy m=>by rw[hg];exact fZ es way y.size y m aC hy
 rw[<-hg]
 obtain⟨L,hL⟩:∃L,L=acc++lM g t:=⟨_,rfl⟩
 rw[<-hL]
 have HL:=ad hL
 have HGL:=ad hgl
 have HC:Hid (∀(v:World) (acc2:List UInt8) (y:TV) (ty:Tm),ty.size<t.size->iF ty->aO v B0 y ty->jn v B0 B wb bt bm es way acc2->acc2.length+6000*ty.size<=10000000000->Calls prog 28 #[ah wb,.agg #[ae y.k,ae y.n,af y.s,.slice y.A y.len y.cap],ae 999] v fun e v'=>e=am/\cw v' B wb bt way (acc2++g ty 999)/\Fr (bJ v B wb) v v'):=ad fun v acc2 y ty hm hwy hy hk hl=>by
  rw[hg,<-aN]
  exact hC v B0 B wb bt bm acc2 y ty 999 (by omega) hwy hy hk hl
 have hsz:=mQ hc
 have hst:=nJ hc
 have hl2:=(dC hc).2.2
 have hw0:=hw.arg (i:=0) (by omega)
 have hw1:=hw.arg (i:=1) (by omega)
 have hb0:B0<=u.heap.size:=Nat.le_trans hK.b0B hK.bu
 obtain⟨W,hW⟩:∃W,W=u.alloc (.cells #[ae x.k,ae x.n,af x.s,.slice x.A x.len x.cap] 27):=⟨_,rfl⟩
 have hbW:aE u W:=by rw[hW];exact aB
 have hx0:W.heap[u.heap.size]?=some (.cells #[ae x.k,ae x.n,af x.s,.slice x.A x.len x.cap] 27 (0,0)):=by rw[hW];exact az
 have hKW:=hK.later hbW
 have hxW:aO W B0 x t:=hx.blw (hK.low (Fr.of_below _ hbW))
 obtain⟨q,hq⟩:∃q,q=u.heap.size:=⟨_,rfl⟩
 have hqB:B0<=q:=by omega
 have hneW:q≠wb:=by rw[hq];exact hKW.ne hx0 (by decide)
 rw[aN]
 have HKW:=ad hKW
 have HXW:=ad hxW
 have HX0:Hid (W.heap[q]?=some (.cells #[ae x.k,ae x.n,af x.s,.slice x.A x.len x.cap] 27 (0,0))):=ad (by rw[hq];exact hx0)
 have HBW:Hid (Fr (bJ u B wb) u W):=ad (Fr.of_below _ hbW)
 have HQ:Hid (u.heap.size<=q/\B0<=q/\q≠wb):=ad ⟨by omega,hqB,hneW⟩
 have HS:=ad (aD hsz (aD hst (aD hw0 (aD hw1 (aD hlen hc)))))
 obtain⟨c3,-,-⟩:=hKW.put3
 unfold gj at c3
 clear hg hgl hL hC hn hw hx hK hlen hsz hst hl2 hw0 hw1 hb0 hbW hx0 hKW hxW hqB hneW hc
 go_enter func139,ntmps139
 go_upto_region 1 with fail
 rw[<-hW,<-hq]
 clear hW hq
 go_wp2_with fail
 refine(cM W B wb bt way acc [91] HKW.at' HKW.bu (by have:=HS.2.2.2.2.1;simp only[List.length_cons,List.length_nil];omega)).mono ?_
 rintro e W1 ⟨rfl,h1,h2⟩
 have HK1:=ad (HKW.next h1 h2)
 have HB1:=ad (bJ.keep h2 HX0.out (by decide) HQ.2.2)
 have HF1:=ad (bJ.trans HBW.out h2)
 have hx1:=HXW.blw (HKW.low h2)
 obtain⟨b,off,a0,a1,n2,hA,hbB,ht0,ht1,⟨m0,m1,m2,m3⟩,-⟩:=jh hx1 HS.2.2.2.2.2
 have HX1:=ad (aD hx1 ht0)
 obtain⟨f0,f1,f2,f3,-⟩:=aH HB1.out
 rw[hA,n2]at f3
 have hbs:b<W1.heap.size:=by have:=HQ.out;have h5:=(ap HB1.out).1;omega
 have HA:=ad (aD n2 hA)
 clear h1 h2 c3 hx1 ht0 ht1 n2 hA
 go_wp2_with fail
 refine(HC.out W1 _ a0 _ (by have:=HS.1;omega) HS.2.2.1 HX1.2 HK1.out (by have:=HS.out;simp only[List.length_append,List.length_cons,List.length_nil];omega)).mono ?_
 rintro e W2 ⟨rfl,h1,h2⟩
 have HK2:=ad (HK1.next h1 h2)
 have HB2:=ad (bJ.keep h2 HB1.out (by decide) HQ.2.2)
 have HF2:=ad (bJ.trans HF1.out h2)
 have hx2:=HX1.1.blw (HK1.low h2)
 clear f0 f1 f2 f3 m0 m1 m2 m3 hbs h1 h2 hbB
 clear HA
 obtain⟨b,off,a0',a1,n2,hA,hbB,-,ht1,-,⟨m0,m1,m2,m3⟩⟩:=jh hx2 HS.2.2.2.2.2
 obtain⟨f0,f1,f2,f3,zf⟩:=aH HB2.out
 rw[hA,n2]at f3
 have hbs:b<W2.heap.size:=by have:=HQ.out;have h5:=(ap HB2.out).1;omega
 have HX2:=ad ht1
 have HLS:Hid (DZ g u B0 B wb bt bm es way acc q t a1 (t.args.getD 1 aQ) [t.args.getD 0 aQ] ((((W2.setCell (ak q 0) (ae a1.k)).setCell (ak q 1) (ae a1.n)).setCell (ak q 2) (af a1.s)).setCell (ak q 3) (.slice a1.A a1.len a1.cap))):=ad (by
  obtain⟨s1,s2,s3,s4,s5,s6⟩:=HS.out
  have hgl:=HGL.out _ s3 999
  refine⟨bc HB2.out rfl _ _ _ _,?_,?_,?_,s4,?_,by omega,by simp,by rw[s2];rfl⟩
  ·have:=HK2.box HB2.out HQ.2.1 (ae a1.k) (ae a1.n) (af a1.s) (.slice a1.A a1.len a1.cap)
   simpa[bG]using this
  ·exact ht1.keep aC fun k hk=>aM _ _ _ _ (by have:=HQ.2.1;omega)
  ·exact(((HF2.setCell (p:=(ak q 0)) (.inr HQ.1) _).setCell (p:=(ak q 1)) (.inr HQ.1) _).setCell (p:=(ak q 2)) (.inr HQ.1) _).setCell (p:=(ak q 3)) (.inr HQ.1) _
  ·simp only[bG,List.length_append,List.length_cons]
   omega)
 clear n2 hA ht1 hx2 hbB HK1 HB1 HF1 HX1 HKW HXW HX0 HBW
 go_wp2_with fail
 go_loopg [] t.size (fun gk v=>∃(y:TV) (ty:Tm) (dn:List Tm),Hid (DZ g u B0 B wb bt bm es way acc q t y ty dn v/\ty.size<=gk))
 case atStart=>exact⟨_,_,_,ad ⟨HLS.out,Nat.le_of_lt HLS.sz⟩⟩
 case round=>
  obtain⟨y,ty,dn,HH⟩:=hrel
  clear HLS HK2 HB2 HF2 HX2 f0 f1 f2 f3 zf m0 m1 m2 m3 hbs
  have HLA:=ad HH.1
  have HGK:=ad HH.2
  clear HH
  obtain⟨f0,f1,f2,f3,zf⟩:=aH HLA.box
  obtain⟨c3,-,-⟩:=HLA.k.put3
  unfold gj at c3
  have HIS:Hid (Calls prog 138 #[.agg #[ae y.k,ae y.n,af y.s,.slice y.A y.len y.cap]] wr fun e w'=>e=.returned (.bool (dj ty))/\aE wr w'):=ad (by
   rw[<-aN]
   exact mn wr B0 y ty HLA.tm)
  cases hct:dj ty with
  |true=>
   rw[hct]at HIS
   have HCT:=ad hct
   clear hct
   go_wp2_with fail
   refine HIS.mono ?_
   rintro e W1 ⟨rfl,hb1⟩
   have HK1:=ad (HLA.k.later hb1)
   have HB1:=ad ((hb1.block q (ap HLA.box).1).trans HLA.box)
   have HF1:=ad (bJ.step HLA.fr hb1)
   have HX1:=ad (HLA.tm.blw (HLA.k.low (Fr.of_below _ hb1)))
   clear f0 f1 f2 f3 zf c3 hb1 HIS
   obtain⟨c3,-,-⟩:=HK1.put3
   unfold gj at c3
   go_wp2_with fail
   refine(cM W1 B wb bt way _ [44] HK1.at' HK1.bu (by have:=HLA.lenB;simp only[List.length_cons,List.length_nil];omega)).mono ?_
   rintro e W2 ⟨rfl,h1,h2⟩
   have HK2:=ad (HK1.next h1 h2)
   have HB2:=ad (bJ.keep h2 HB1.out (by decide) HQ.2.2)
   have HF2:=ad (bJ.trans HF1.out h2)
   have hx2:=HX1.blw (HK1.low h2)
   obtain⟨b,off,a0,a1,n2,hA,hbB,ht0,ht1,⟨m0,m1,m2,m3⟩,-⟩:=jh hx2 HCT.out
   have HX2:=ad (aD hx2 ht0)
   obtain⟨f0,f1,f2,f3,-⟩:=aH HB2.out
   rw[hA,n2]at f3
   have hbs:b<W2.heap.size:=by have:=HQ.out;have h5:=(ap HB2.out).1;omega
   clear h1 h2 c3 hx2 ht0 ht1 n2 hA hbB
   have HCS:=ad (aD (mQ HCT.out) (aD (nJ HCT.out) (aD (HLA.wf.arg (i:=0) (by have:=(dC HCT.out).2.2;omega)) (HLA.wf.arg (i:=1) (by have:=(dC HCT.out).2.2;omega)))))
   go_wp2_with fail
   refine(HC.out W2 _ a0 _ (by have:=HCS.1;have:=HLA.sz;omega) HCS.2.2.1 HX2.2 HK2.out (by have:=HLA.lenB;have:=HCS.1;rw[List.length_append];simp only[List.length_cons,List.length_nil];omega)).mono ?_
   rintro e W3 ⟨rfl,h1,h2⟩
   have HK3:=ad (HK2.next h1 h2)
   have HB3:=ad (bJ.keep h2 HB2.out (by decide) HQ.2.2)
   have HF3:=ad (bJ.trans HF2.out h2)
   have hx3:=HX2.1.blw (HK2.low h2)
   clear f0 f1 f2 f3 m0 m1 m2 m3 hbs h1 h2
   obtain⟨b,off,a0',a1,n2,hA,hbB,-,ht1,-,⟨m0,m1,m2,m3⟩⟩:=jh hx3 HCT.out
   obtain⟨f0,f1,f2,f3,zf⟩:=aH HB3.out
   rw[hA,n2]at f3
   have hbs:b<W3.heap.size:=by have:=HQ.out;have h5:=(ap HB3.out).1;omega
   have HLS:Hid (DZ g u B0 B wb bt bm es way acc q t a1 (ty.args.getD 1 aQ) (dn++[ty.args.getD 0 aQ]) ((((W3.setCell (ak q 0) (ae a1.k)).setCell (ak q 1) (ae a1.n)).setCell (ak q 2) (af a1.s)).setCell (ak q 3) (.slice a1.A a1.len a1.cap))/\(ty.args.getD 1 aQ).size<=gk-1):=ad (by
    obtain⟨s1,s2,s3,s4⟩:=HCS.out
    have hgl:=HGL.out _ s3 999
    have hdl:dn.length≠0:=by have:=HLA.ne;simpa using this
    have htx:acc++91::bG g dn++[44]++g (ty.args.getD 0 aQ) 999=acc++91::bG g (dn++[ty.args.getD 0 aQ]):=by
     rw[fU,if_neg hdl]
     simp
    refine⟨⟨bc HB3.out rfl _ _ _ _,?_,?_,?_,s4,?_,by have:=HLA.sz;omega,by simp,?_⟩,by have:=HGK.out;omega⟩
    ·rw[<-htx]
     exact HK3.box HB3.out HQ.2.1 (ae a1.k) (ae a1.n) (af a1.s) (.slice a1.A a1.len a1.cap)
    ·exact ht1.keep aC fun k hk=>aM _ _ _ _ (by have:=HQ.2.1;omega)
    ·exact(((HF3.setCell (p:=(ak q 0)) (.inr HQ.1) _).setCell (p:=(ak q 1)) (.inr HQ.1) _).setCell (p:=(ak q 2)) (.inr HQ.1) _).setCell (p:=(ak q 3)) (.inr HQ.1) _
    ·rw[<-htx]
     have:=HLA.lenB
     simp only[List.length_append,List.length_cons,List.length_nil]at this⊢
     omega
    ·rw[HLA.eq,s2]
     simp)
   have hgk:0<gk:=by have:=HGK.out;have:=bL ty;omega
   clear n2 hA ht1 hx3 hbB HK1 HB1 HF1 HX1 HK2 HB2 HF2 HX2 HK3 HB3 HF3
   go_wp2_with fail
   go_roundg (gk-1)
   case rel=>exact⟨_,_,_,HLS⟩
   all_goals omega
  |false=>
   rw[hct]at HIS
   have hLL:L=acc++91::(bG g dn++(ju g ty++[93])):=by
    rw[HL.out]
    unfold lM
    rw[HLA.eq,vH hct]
    simp
   have HLL:=ad hLL
   clear hct hLL
   go_wp2_with fail
   refine HIS.mono ?_
   rintro e W1 ⟨rfl,hb1⟩
   have HK1:=ad (HLA.k.later hb1)
   have HB1:=ad ((hb1.block q (ap HLA.box).1).trans HLA.box)
   have HF1:=ad (bJ.step HLA.fr hb1)
   have HX1:=ad (HLA.tm.blw (HLA.k.low (Fr.of_below _ hb1)))
   clear f0 f1 f2 f3 zf c3 hb1 HIS
   obtain⟨f0,f1,f2,f3,zf⟩:=aH HB1.out
   obtain⟨c3,-,-⟩:=HK1.put3
   unfold gj at c3
   obtain⟨e1,-,e3,-⟩:=HX1.open
   have HE:=ad (aD e1 e3)
   clear e1 e3
   have hAD:Hid (∀(v:World) (a2:List UInt8),cw v B wb bt way a2->Fr (bJ W1 B wb) W1 v->a2.length<=60000000000->Calls prog 27 #[ah wb,.string ⟨#[93]⟩] v fun e v'=>e=am/\cw v' B wb bt way (a2++[93])/\Fr (bJ u B wb) u v'):=ad fun v a2 ha hf hl=>by
    have hk:=HK1.next ha hf
    refine(cM v B wb bt way a2 [93] hk.at' hk.bu (by simp only[List.length_cons,List.length_nil];omega)).mono ?_
    rintro e v' ⟨rfl,h1,h2⟩
    exact⟨rfl,h1,bJ.trans (bJ.trans HF1.out hf) h2⟩
   have HEND:Hid ((acc++91::bG g dn++[124]++g ty 999).length<=60000000000):=ad (by
    have h1:=HLA.lenB
    have h2:=HGL.out _ HLA.wf 999
    simp only[List.length_append,List.length_cons,List.length_nil]at h1⊢
    omega)
   have hT:Hid (ju g ty≠[]->Calls prog 27 #[ah wb,.string ⟨#[124]⟩] W1 fun e v'=>e=am/\cw v' B wb bt way (acc++91::bG g dn++[124])/\Fr (bJ W1 B wb) W1 v'):=ad fun _=>
    cM W1 B wb bt way _ [124] HK1.at' HK1.bu (by have:=HLA.lenB;simp only[List.length_cons,List.length_nil];omega)
   by_cases hk3:y.k=3
   ·by_cases hs:y.s=[91,93]
    ·have b1:(y.k !=3)=false:=by rw[hk3];rfl
     have b2:(y.s !=[91,93])=false:=by rw[hs];rfl
     have b3:(y.k==3)=true:=by rw[hk3];rfl
     have b4:(y.s==[91,93])=true:=by rw[hs];rfl
     have hLE:L=acc++91::bG g dn++[93]:=by
      rw[HLL.out]
      unfold ju
      rw[if_pos ⟨HE.1.trans hk3,HE.2.trans hs⟩]
      simp
     have HLE:=ad hLE
     clear hk3 hs hLE
     go_wp2_with fail
     refine(hAD.out W1 _ HK1.at' (Fr.refl _ _) (by have:=HLA.lenB;omega)).mono ?_
     rintro e W2 ⟨rfl,h1,h2⟩
     go_wp2_with fail
     go_end0
     exact⟨rfl,by rw[HLE.out];exact h1,h2⟩
    ·have b1:(y.k !=3)=false:=by rw[hk3];rfl
     have b2:(y.s !=[91,93])=true:=bne_iff_ne.2 hs
     have b3:(y.k==3)=true:=by rw[hk3];rfl
     have b4:(y.s==[91,93])=false:=beq_eq_false_iff_ne.2 hs
     have hTE:ju g ty=124::g ty 999:=by unfold ju;rw[if_neg (fun h=>hs (HE.2.symm.trans h.2))]
     have HTE:=ad hTE
     clear hk3 hs hTE
     go_wp2_with fail
     refine(hT.out (by rw[HTE.out];simp)).mono ?_
     rintro e W2 ⟨rfl,h1,h2⟩
     have HB2:=ad (bJ.keep h2 HB1.out (by decide) HQ.2.2)
     have HK2:=ad (HK1.next h1 h2)
     have HX2:=ad (HX1.blw (HK1.low h2))
     have HF2:=ad h2
     clear f0 f1 f2 f3 zf c3 h1 h2
     obtain⟨f0,f1,f2,f3,zf⟩:=aH HB2.out
     go_wp2_with fail
     refine(HC.out W2 _ y _ HLA.sz HLA.wf HX2.out HK2.out (by have:=HLA.lenB;rw[List.length_append];simp only[List.length_cons,List.length_nil];omega)).mono ?_
     rintro e W3 ⟨rfl,h1,h2⟩
     have HK3:=ad (HK2.next h1 h2)
     have HF3:=ad (bJ.trans HF2.out h2)
     clear f0 f1 f2 f3 zf h1 h2
     obtain⟨c3,-,-⟩:=HK3.put3
     unfold gj at c3
     go_wp2_with fail
     refine(hAD.out W3 _ HK3.at' HF3.out HEND.out).mono ?_
     rintro e W4 ⟨rfl,h1,h2⟩
     go_wp2_with fail
     go_end0
     exact⟨rfl,by rw[HLL.out,HTE.out];simpa using h1,h2⟩
   ·have b1:(y.k !=3)=true:=bne_iff_ne.2 hk3
    have hTE:ju g ty=124::g ty 999:=by unfold ju;rw[if_neg (fun h=>hk3 (HE.1.symm.trans h.1))]
    have HTE:=ad hTE
    clear hk3 hTE
    go_wp2_with fail
    refine(hT.out (by rw[HTE.out];simp)).mono ?_
    rintro e W2 ⟨rfl,h1,h2⟩
    have HB2:=ad (bJ.keep h2 HB1.out (by decide) HQ.2.2)
    have HK2:=ad (HK1.next h1 h2)
    have HX2:=ad (HX1.blw (HK1.low h2))
    have HF2:=ad h2
    clear f0 f1 f2 f3 zf c3 h1 h2
    obtain⟨f0,f1,f2,f3,zf⟩:=aH HB2.out
    go_wp2_with fail
    refine(HC.out W2 _ y _ HLA.sz HLA.wf HX2.out HK2.out (by have:=HLA.lenB;rw[List.length_append];simp only[List.length_cons,List.length_nil];omega)).mono ?_
    rintro e W3 ⟨rfl,h1,h2⟩
    have HK3:=ad (HK2.next h1 h2)
    have HF3:=ad (bJ.trans HF2.out h2)
    clear f0 f1 f2 f3 zf h1 h2
    obtain⟨c3,-,-⟩:=HK3.put3
    unfold gj at c3
    go_wp2_with fail
    refine(hAD.out W3 _ HK3.at' HF3.out HEND.out).mono ?_
    rintro e W4 ⟨rfl,h1,h2⟩
    go_wp2_with fail
    go_end0
    exact⟨rfl,by rw[HLL.out,HTE.out];simpa using h1,h2⟩
end
end Go.Proofs.YtigeofkllldilaaGreatDoor
