import Derived.Test.YtigeofkllldilaaGreatDoorJM28
set_option maxHeartbeats 32000000
set_option maxRecDepth 100000
set_option linter.unusedSectionVars false
open Go.Proofs.Tryz
namespace Go.Proofs.YtigeofkllldilaaGreatDoor
section
open Go.RowKit Go.Maps
theorem mt {w:World} {B:Nat} {x:TV} {t:Tm} (h:aO w B x t) {i:Nat} (hi:i<t.args.length):
 ∃b off y,x.A=some (ak b off)/\b<B/\aO w B y (t.args.getD i aQ)∧
  (w.cell? (ak b (off+i*4))=some (ae y.k)/\w.cell? (ak b (off+i*4+1))=some (ae y.n)/\w.cell? (ak b (off+i*4+2))=some (af y.s)/\w.cell? (ak b (off+i*4+3))=some (.slice y.A y.len y.cap)):=by
 obtain⟨k1,k2,k3,k4,k5,ka⟩:=h.open
 have e0:t.args[i]?=some (t.args.getD i aQ):=by rw[List.getD_eq_getElem?_getD,au hi];rfl
 obtain⟨y,b,off,hA,hb,ht,hc⟩:=ka i _ e0
 exact⟨b,off,y,hA,hb,ht,hc 0 _ rfl,hc 1 _ rfl,hc 2 _ rfl,hc 3 _ rfl⟩
theorem xi {b off b' off':Nat} {x:TV} (h1:x.A=some (ak b off)) (h2:x.A=some (ak b' off')):b=b'/\off=off':=by
 rw[h1]at h2
 injection h2 with h2
 injection h2 with q1 q2
 exact⟨q1,q2⟩
def Hd (W:World) (B wb bt:Nat) (way:Int) (a2:List UInt8) (v:World):Prop:=cw v B wb bt way a2/\Fr (bJ W B wb) W v
theorem Hd.later {W v v':World} {B wb bt:Nat} {way:Int} {a2:List UInt8} (h:Hd W B wb bt way a2 v) (hb:aE v v'):Hd W B wb bt way a2 v':=⟨h.1.later hb,h.2.step hb⟩
theorem nc {es:List (dh×dv)} {way:Int} {n:Nat} (hC:jB es way n) (u:World) (B0 B wb bt bm:Nat) (acc:List UInt8) (x:TV) (t:Tm) (o:sI) (hn:t.size<=n+1) (hw:iF t) (hx:aO u B0 x t) (hnm:o.name=t.s) (hsd:o.side=1) (hl:t.args.length=1) (hK:jn u B0 B wb bt bm es way acc) (hlen:acc.length+6000*t.size<=10000000001):
 Calls prog 142 #[ah wb,pH o,.slice x.A x.len x.cap] u fun e u'=>e=am/\cw u' B wb bt way (acc++bq es way (gM es way) o t.args)/\Fr (bJ u B wb) u u':=by
 obtain⟨k1,k2,k3,k4,k5,-⟩:=hx.open
 obtain⟨g,hg⟩:∃g,g=gM es way:=⟨_,rfl⟩
 have hgl:∀i,i<t.args.length->∀m,(g (t.args.getD i aQ) m).length<=6000*(t.args.getD i aQ).size:=fun i hi m=>by rw[hg];exact fZ es way _ _ m aC (hw.arg hi)
 have hnl:o.name.length<=1000:=by rw[hnm];exact hw.name.1
 have htl:=gB way hnl
 rw[<-hg]
 obtain⟨T,hT⟩:∃T,T=eu way o.name:=⟨_,rfl⟩
 rw[<-hT]at htl
 obtain⟨F,hF⟩:∃F,F=acc++bq es way g o t.args:=⟨_,rfl⟩
 rw[<-hF]
 obtain⟨W,hW⟩:∃W,W=u.alloc (.cells #[ae o.side,ae o.pri,af o.name,.bool o.left,.bool o.right] 218):=⟨_,rfl⟩
 have hbW:aE u W:=by rw[hW];exact aB
 have ho0:W.heap[u.heap.size]?=some (.cells #[ae o.side,ae o.pri,af o.name,.bool o.left,.bool o.right] 218 (0,0)):=by rw[hW];exact az
 have hKW:=hK.later hbW
 have hxW:aO W B0 x t:=hx.blw (hK.low (Fr.of_below _ hbW))
 obtain⟨q,hq⟩:∃q,q=u.heap.size:=⟨_,rfl⟩
 rw[<-hq]at ho0
 have hne:q≠wb:=hKW.ne ho0 (by decide)
 obtain⟨b,off,y0,hA,hbB,hy0,m0,m1,m2,m3⟩:=mt hxW (i:=0) (by omega)
 simp only[Nat.zero_mul,Nat.add_zero]at m0 m1 m2 m3
 have hxl:x.len=1:=by omega
 rw[hA,hxl]
 have HSS:Hid (∀a2 v,Hd W B wb bt way a2 v->v.cell? (ak wb 3)=some (.func (.func 27) #[ah wb] #[])/\v.cell? (ak q 0)=some (ae o.side)/\v.cell? (ak q 1)=some (ae o.pri)/\v.cell? (ak q 2)=some (af o.name)/\v.cell? (ak q 3)=some (.bool o.left)/\v.cell? (ak q 4)=some (.bool o.right)/\v.cell? (ak b off)=some (ae y0.k)/\v.cell? (ak b (off+1))=some (ae y0.n)/\v.cell? (ak b (off+2))=some (af y0.s)/\v.cell? (ak b (off+3))=some (.slice y0.A y0.len y0.cap)):=ad fun a2 v hv=>by
  have e1:=(hKW.next hv.1 hv.2).put3.1
  obtain⟨g0,g1,g2,g3,g4,-⟩:=bw (bJ.keep hv.2 ho0 (by decide) hne)
  have hc:∀j,v.cell? (ak b j)=W.cell? (ak b j):=fun j=>World.cell?_of_block (w:=W) (a:=⟨b,j,none⟩) ((hKW.low hv.2).block b hbB)
  rw[hc,hc,hc,hc]
  exact⟨e1,g0,g1,g2,g3,g4,m0,m1,m2,m3⟩
 have HTX:Hid (∀a2 V v,Hd W B wb bt way a2 V->aE V v->Calls prog 65 #[ah wb,af o.name] v fun e v'=>e=.returned (af T)/\aE V v'):=ad fun a2 V v hV hv=>by
  have hk:=hKW.next (hV.later hv).1 (hV.later hv).2
  refine(iH v B wb bt way a2 o.name hk.at' hnl hk.env.bits).mono ?_
  rintro e v' ⟨rfl,hb'⟩
  exact⟨by rw[hT],hv.trans (hb'.mono hv.size)⟩
 have HAD:Hid (∀a2 Z v,Hd W B wb bt way a2 v->a2.length+Z.length<=100000000000->Calls prog 27 #[ah wb,af Z] v fun e v'=>e=am/\Hd W B wb bt way (a2++Z) v'):=ad fun a2 Z v hv hz=>by
  have hk:=hKW.next hv.1 hv.2
  refine(cM v B wb bt way a2 Z hk.at' hk.bu hz).mono ?_
  rintro e v' ⟨rfl,h1,h2⟩
  exact⟨rfl,h1,bJ.trans hv.2 h2⟩
 have HOP0:Hid (∀a2 same v,Hd W B wb bt way a2 v->a2.length+6000*(t.args.getD 0 aQ).size+2<=10000000000->Calls prog 233 #[ah wb,.agg #[ae y0.k,ae y0.n,af y0.s,.slice y0.A y0.len y0.cap],.agg #[ae o.side,ae o.pri,af o.name,.bool o.left,.bool o.right],.bool same] v fun e v'=>e=am/\Hd W B wb bt way (a2++aZ es way g (t.args.getD 0 aQ) o same) v'):=ad fun a2 same v hv hz=>by
  have hk:=hKW.next hv.1 hv.2
  rw[hg,<-aN]
  refine(fR hC v B0 B wb bt bm a2 y0 _ o same (by have:=dZ (t:=t) (i:=0) (by omega);omega) (hw.arg (by omega)) (hy0.blw (hKW.low hv.2)) hk hz).mono ?_
  rintro e v' ⟨rfl,h1,h2⟩
  exact⟨rfl,h1,bJ.trans hv.2 h2⟩
 have HVW:Hid (Hd W B wb bt way acc W):=ad ⟨hKW.at',Fr.refl _ _⟩
 have HFIN:Hid (∀v,Fr (bJ W B wb) W v->Fr (bJ u B wb) u v):=ad fun v hv=>bJ.trans (Fr.of_below _ hbW) hv
 have HLN:Hid (acc.length+5002+(aZ es way g (t.args.getD 0 aQ) o false).length+900<=10000000000/\acc.length+5002+6000*(t.args.getD 0 aQ).size+900<=10000000000/\T.length<=5002):=ad (by
  have h1:=fu hl
  have h2:=ep (es:=es) (way:=way) (t.args.getD 0 aQ) (hgl 0 (by omega)) o false
  omega)
 have HEN:Hid (F=acc++T++[32]++aZ es way g (t.args.getD 0 aQ) o false):=ad (by
  rw[hF];unfold bq;rw[if_pos hsd,hT];simp)
 have s1:(o.side==1)=true:=by rw[hsd];rfl
 clear hC hn hw hx hnm hsd hl hK hlen k1 k2 k3 k4 k5 hg hgl hnl htl hT hF hbW ho0 hKW hxW hne hA hbB hy0 m0 m1 m2 m3 hxl
 unfold pH
 go_enter func142,ntmps142
 go_upto_region 1 with fail
 rw[<-hW,<-hq]
 clear hW hq
 obtain⟨x0,x1,x2,x3,x4,x5,x6,x7,x8,x9⟩:=HSS.out _ W HVW.out
 go_wp2_with fail
 have hbr:=Below.refl W.heap.size W
 have hbd:aE W W.drew:=(Below.refl W.heap.size W).drew
 have HSW:Hid (∀v,aE W v->v.cell? (ak wb 3)=some (.func (.func 27) #[ah wb] #[])/\v.cell? (ak q 0)=some (ae o.side)/\v.cell? (ak q 1)=some (ae o.pri)/\v.cell? (ak q 2)=some (af o.name)/\v.cell? (ak q 3)=some (.bool o.left)/\v.cell? (ak q 4)=some (.bool o.right)/\v.cell? (ak b off)=some (ae y0.k)/\v.cell? (ak b (off+1))=some (ae y0.n)/\v.cell? (ak b (off+2))=some (af y0.s)/\v.cell? (ak b (off+3))=some (.slice y0.A y0.len y0.cap)):=ad fun v hv=>HSS.out _ v (HVW.later hv)
 have HTW:Hid (∀v,aE W v->Calls prog 65 #[ah wb,af o.name] v fun e v'=>e=.returned (af T)/\aE W v'):=ad fun v hv=>HTX.out _ _ _ HVW.out hv
 have HAW:Hid (∀v,aE W v->Calls prog 27 #[ah wb,af T] v fun e v'=>e=am/\Hd W B wb bt way (acc++T) v'):=ad fun v hv=>HAD.out _ T v (HVW.later hv) (by have:=HLN.out;(try simp only[List.length_append,List.length_cons,List.length_nil]);omega)
 go_region_held3 (fun v=>v.cell? (ak wb 3)=some (.func (.func 27) #[ah wb] #[])/\v.cell? (ak q 0)=some (ae o.side)/\v.cell? (ak q 1)=some (ae o.pri)/\v.cell? (ak q 2)=some (af o.name)/\v.cell? (ak q 3)=some (.bool o.left)/\v.cell? (ak q 4)=some (.bool o.right)/\v.cell? (ak b off)=some (ae y0.k)/\v.cell? (ak b (off+1))=some (ae y0.n)/\v.cell? (ak b (off+2))=some (af y0.s)/\v.cell? (ak b (off+3))=some (.slice y0.A y0.len y0.cap))
  (first|(with_reducible exact HSW.out _ (by assumption))|(with_reducible exact HSS.out _ _ (by assumption)))
  (first|(go_at_call 65;with_reducible refine(HTW.out _ (by assumption)).mono ?_;rintro e v1 ⟨rfl,hb1⟩)|(go_at_call 27;with_reducible refine(HAW.out _ (by assumption)).mono ?_;rintro e W1 ⟨rfl,hg⟩))
 have HVW1:=ad hg
 clear x0 x1 x2 x3 x4 x5 x6 x7 x8 x9 hbr hbd HSW HTW HAW hg
 obtain⟨x0,x1,x2,x3,x4,x5,x6,x7,x8,x9⟩:=HSS.out _ W1 HVW1.out
 go_wp2_with fail
 refine(HAD.out _ [32] W1 HVW1.out (by have:=HLN.out;(try simp only[List.length_append,List.length_cons,List.length_nil]);omega)).mono ?_
 rintro e W2 ⟨rfl,hg⟩
 have HVW2:=ad hg
 clear x0 x1 x2 x3 x4 x5 x6 x7 x8 x9 hg
 obtain⟨x0,x1,x2,x3,x4,x5,x6,x7,x8,x9⟩:=HSS.out _ W2 HVW2.out
 go_wp2_with fail
 have hbr:=Below.refl W2.heap.size W2
 have hbd:aE W2 W2.drew:=(Below.refl W2.heap.size W2).drew
 have HSW2:Hid (∀v,aE W2 v->v.cell? (ak wb 3)=some (.func (.func 27) #[ah wb] #[])/\v.cell? (ak q 0)=some (ae o.side)/\v.cell? (ak q 1)=some (ae o.pri)/\v.cell? (ak q 2)=some (af o.name)/\v.cell? (ak q 3)=some (.bool o.left)/\v.cell? (ak q 4)=some (.bool o.right)/\v.cell? (ak b off)=some (ae y0.k)/\v.cell? (ak b (off+1))=some (ae y0.n)/\v.cell? (ak b (off+2))=some (af y0.s)/\v.cell? (ak b (off+3))=some (.slice y0.A y0.len y0.cap)):=ad fun v hv=>HSS.out _ v (HVW2.later hv)
 have HOW2:Hid (∀v,aE W2 v->Calls prog 233 #[ah wb,.agg #[ae y0.k,ae y0.n,af y0.s,.slice y0.A y0.len y0.cap],.agg #[ae o.side,ae o.pri,af o.name,.bool o.left,.bool o.right],.bool false] v fun e v'=>e=am/\Hd W B wb bt way (((acc++T)++[32])++aZ es way g (t.args.getD 0 aQ) o false) v'):=ad fun v hv=>HOP0.out _ false v (HVW2.later hv) (by have:=HLN.out;(try simp only[List.length_append,List.length_cons,List.length_nil]);omega)
 go_region_held3 (fun v=>v.cell? (ak wb 3)=some (.func (.func 27) #[ah wb] #[])/\v.cell? (ak q 0)=some (ae o.side)/\v.cell? (ak q 1)=some (ae o.pri)/\v.cell? (ak q 2)=some (af o.name)/\v.cell? (ak q 3)=some (.bool o.left)/\v.cell? (ak q 4)=some (.bool o.right)/\v.cell? (ak b off)=some (ae y0.k)/\v.cell? (ak b (off+1))=some (ae y0.n)/\v.cell? (ak b (off+2))=some (af y0.s)/\v.cell? (ak b (off+3))=some (.slice y0.A y0.len y0.cap))
  (first|(with_reducible exact HSW2.out _ (by assumption))|(with_reducible exact HSS.out _ _ (by assumption)))
  (first|(go_at_call 233;with_reducible refine(HOW2.out _ (by assumption)).mono ?_;rintro e W3 ⟨rfl,hg⟩))
 have HVW3:=ad hg
 clear x0 x1 x2 x3 x4 x5 x6 x7 x8 x9 hbr hbd HSW2 HOW2 hg
 go_wp2_with fail
 go_end0
 exact⟨rfl,by rw[HEN.out];simpa using HVW3.1,HFIN.out _ HVW3.2⟩
theorem nI {es:List (dh×dv)} {way:Int} {n:Nat} (hC:jB es way n) (u:World) (B0 B wb bt bm:Nat) (acc:List UInt8) (x:TV) (t:Tm) (o:sI) (hn:t.size<=n+1) (hw:iF t) (hx:aO u B0 x t) (hnm:o.name=t.s) (hsd:o.side=3) (hl:t.args.length=1) (hK:jn u B0 B wb bt bm es way acc) (hlen:acc.length+6000*t.size<=10000000001):
 Calls prog 142 #[ah wb,pH o,.slice x.A x.len x.cap] u fun e u'=>e=am/\cw u' B wb bt way (acc++bq es way (gM es way) o t.args)/\Fr (bJ u B wb) u u':=by
 obtain⟨k1,k2,k3,k4,k5,-⟩:=hx.open
 obtain⟨g,hg⟩:∃g,g=gM es way:=⟨_,rfl⟩
 have hgl:∀i,i<t.args.length->∀m,(g (t.args.getD i aQ) m).length<=6000*(t.args.getD i aQ).size:=fun i hi m=>by rw[hg];exact fZ es way _ _ m aC (hw.arg hi)
 have hnl:o.name.length<=1000:=by rw[hnm];exact hw.name.1
 have htl:=gB way hnl
 rw[<-hg]
 obtain⟨T,hT⟩:∃T,T=eu way o.name:=⟨_,rfl⟩
 rw[<-hT]at htl
 obtain⟨F,hF⟩:∃F,F=acc++bq es way g o t.args:=⟨_,rfl⟩
 rw[<-hF]
 obtain⟨W,hW⟩:∃W,W=u.alloc (.cells #[ae o.side,ae o.pri,af o.name,.bool o.left,.bool o.right] 218):=⟨_,rfl⟩
 have hbW:aE u W:=by rw[hW];exact aB
 have ho0:W.heap[u.heap.size]?=some (.cells #[ae o.side,ae o.pri,af o.name,.bool o.left,.bool o.right] 218 (0,0)):=by rw[hW];exact az
 have hKW:=hK.later hbW
 have hxW:aO W B0 x t:=hx.blw (hK.low (Fr.of_below _ hbW))
 obtain⟨q,hq⟩:∃q,q=u.heap.size:=⟨_,rfl⟩
 rw[<-hq]at ho0
 have hne:q≠wb:=hKW.ne ho0 (by decide)
 obtain⟨b,off,y0,hA,hbB,hy0,m0,m1,m2,m3⟩:=mt hxW (i:=0) (by omega)
 simp only[Nat.zero_mul,Nat.add_zero]at m0 m1 m2 m3
 have hxl:x.len=1:=by omega
 rw[hA,hxl]
 have HSS:Hid (∀a2 v,Hd W B wb bt way a2 v->v.cell? (ak wb 3)=some (.func (.func 27) #[ah wb] #[])/\v.cell? (ak q 0)=some (ae o.side)/\v.cell? (ak q 1)=some (ae o.pri)/\v.cell? (ak q 2)=some (af o.name)/\v.cell? (ak q 3)=some (.bool o.left)/\v.cell? (ak q 4)=some (.bool o.right)/\v.cell? (ak b off)=some (ae y0.k)/\v.cell? (ak b (off+1))=some (ae y0.n)/\v.cell? (ak b (off+2))=some (af y0.s)/\v.cell? (ak b (off+3))=some (.slice y0.A y0.len y0.cap)):=ad fun a2 v hv=>by
  have e1:=(hKW.next hv.1 hv.2).put3.1
  obtain⟨g0,g1,g2,g3,g4,-⟩:=bw (bJ.keep hv.2 ho0 (by decide) hne)
  have hc:∀j,v.cell? (ak b j)=W.cell? (ak b j):=fun j=>World.cell?_of_block (w:=W) (a:=⟨b,j,none⟩) ((hKW.low hv.2).block b hbB)
  rw[hc,hc,hc,hc]
  exact⟨e1,g0,g1,g2,g3,g4,m0,m1,m2,m3⟩
 have HTX:Hid (∀a2 V v,Hd W B wb bt way a2 V->aE V v->Calls prog 65 #[ah wb,af o.name] v fun e v'=>e=.returned (af T)/\aE V v'):=ad fun a2 V v hV hv=>by
  have hk:=hKW.next (hV.later hv).1 (hV.later hv).2
  refine(iH v B wb bt way a2 o.name hk.at' hnl hk.env.bits).mono ?_
  rintro e v' ⟨rfl,hb'⟩
  exact⟨by rw[hT],hv.trans (hb'.mono hv.size)⟩
 have HAD:Hid (∀a2 Z v,Hd W B wb bt way a2 v->a2.length+Z.length<=100000000000->Calls prog 27 #[ah wb,af Z] v fun e v'=>e=am/\Hd W B wb bt way (a2++Z) v'):=ad fun a2 Z v hv hz=>by
  have hk:=hKW.next hv.1 hv.2
  refine(cM v B wb bt way a2 Z hk.at' hk.bu hz).mono ?_
  rintro e v' ⟨rfl,h1,h2⟩
  exact⟨rfl,h1,bJ.trans hv.2 h2⟩
 have HOP0:Hid (∀a2 same v,Hd W B wb bt way a2 v->a2.length+6000*(t.args.getD 0 aQ).size+2<=10000000000->Calls prog 233 #[ah wb,.agg #[ae y0.k,ae y0.n,af y0.s,.slice y0.A y0.len y0.cap],.agg #[ae o.side,ae o.pri,af o.name,.bool o.left,.bool o.right],.bool same] v fun e v'=>e=am/\Hd W B wb bt way (a2++aZ es way g (t.args.getD 0 aQ) o same) v'):=ad fun a2 same v hv hz=>by
  have hk:=hKW.next hv.1 hv.2
  rw[hg,<-aN]
  refine(fR hC v B0 B wb bt bm a2 y0 _ o same (by have:=dZ (t:=t) (i:=0) (by omega);omega) (hw.arg (by omega)) (hy0.blw (hKW.low hv.2)) hk hz).mono ?_
  rintro e v' ⟨rfl,h1,h2⟩
  exact⟨rfl,h1,bJ.trans hv.2 h2⟩
 have HVW:Hid (Hd W B wb bt way acc W):=ad ⟨hKW.at',Fr.refl _ _⟩
 have HFIN:Hid (∀v,Fr (bJ W B wb) W v->Fr (bJ u B wb) u v):=ad fun v hv=>bJ.trans (Fr.of_below _ hbW) hv
 have HLN:Hid (acc.length+5002+(aZ es way g (t.args.getD 0 aQ) o false).length+900<=10000000000/\acc.length+5002+6000*(t.args.getD 0 aQ).size+900<=10000000000/\T.length<=5002):=ad (by
  have h1:=fu hl
  have h2:=ep (es:=es) (way:=way) (t.args.getD 0 aQ) (hgl 0 (by omega)) o false
  omega)
 have HEN:Hid (F=acc++aZ es way g (t.args.getD 0 aQ) o false++[32]++T):=ad (by
  rw[hF];unfold bq;rw[if_neg (by omega),if_pos hsd,hT];simp)
 have s1:(o.side==1)=false:=by rw[hsd];rfl
 have s3:(o.side==3)=true:=by rw[hsd];rfl
 clear hC hn hw hx hnm hsd hl hK hlen k1 k2 k3 k4 k5 hg hgl hnl htl hT hF hbW ho0 hKW hxW hne hA hbB hy0 m0 m1 m2 m3 hxl
 unfold pH
 go_enter func142,ntmps142
 go_upto_region 1 with fail
 rw[<-hW,<-hq]
 clear hW hq
 obtain⟨x0,x1,x2,x3,x4,x5,x6,x7,x8,x9⟩:=HSS.out _ W HVW.out
 go_wp2_with fail
 have hbr:=Below.refl W.heap.size W
 have hbd:aE W W.drew:=(Below.refl W.heap.size W).drew
 have HSW:Hid (∀v,aE W v->v.cell? (ak wb 3)=some (.func (.func 27) #[ah wb] #[])/\v.cell? (ak q 0)=some (ae o.side)/\v.cell? (ak q 1)=some (ae o.pri)/\v.cell? (ak q 2)=some (af o.name)/\v.cell? (ak q 3)=some (.bool o.left)/\v.cell? (ak q 4)=some (.bool o.right)/\v.cell? (ak b off)=some (ae y0.k)/\v.cell? (ak b (off+1))=some (ae y0.n)/\v.cell? (ak b (off+2))=some (af y0.s)/\v.cell? (ak b (off+3))=some (.slice y0.A y0.len y0.cap)):=ad fun v hv=>HSS.out _ v (HVW.later hv)
 have HOW:Hid (∀v,aE W v->Calls prog 233 #[ah wb,.agg #[ae y0.k,ae y0.n,af y0.s,.slice y0.A y0.len y0.cap],.agg #[ae o.side,ae o.pri,af o.name,.bool o.left,.bool o.right],.bool false] v fun e v'=>e=am/\Hd W B wb bt way (acc++aZ es way g (t.args.getD 0 aQ) o false) v'):=ad fun v hv=>HOP0.out _ false v (HVW.later hv) (by have:=HLN.out;(try simp only[List.length_append,List.length_cons,List.length_nil]);omega)
 go_region_held3 (fun v=>v.cell? (ak wb 3)=some (.func (.func 27) #[ah wb] #[])/\v.cell? (ak q 0)=some (ae o.side)/\v.cell? (ak q 1)=some (ae o.pri)/\v.cell? (ak q 2)=some (af o.name)/\v.cell? (ak q 3)=some (.bool o.left)/\v.cell? (ak q 4)=some (.bool o.right)/\v.cell? (ak b off)=some (ae y0.k)/\v.cell? (ak b (off+1))=some (ae y0.n)/\v.cell? (ak b (off+2))=some (af y0.s)/\v.cell? (ak b (off+3))=some (.slice y0.A y0.len y0.cap))
  (first|(with_reducible exact HSW.out _ (by assumption))|(with_reducible exact HSS.out _ _ (by assumption)))
  (first|(go_at_call 233;with_reducible refine(HOW.out _ (by assumption)).mono ?_;rintro e W1 ⟨rfl,hg⟩))
 have HVW1:=ad hg
 clear x0 x1 x2 x3 x4 x5 x6 x7 x8 x9 hbr hbd HSW HOW hg
 obtain⟨x0,x1,x2,x3,x4,x5,x6,x7,x8,x9⟩:=HSS.out _ W1 HVW1.out
 go_wp2_with fail
 refine(HAD.out _ [32] W1 HVW1.out (by have:=HLN.out;(try simp only[List.length_append,List.length_cons,List.length_nil]);omega)).mono ?_
 rintro e W2 ⟨rfl,hg⟩
 have HVW2:=ad hg
 clear x0 x1 x2 x3 x4 x5 x6 x7 x8 x9 hg
 obtain⟨x0,x1,x2,x3,x4,x5,x6,x7,x8,x9⟩:=HSS.out _ W2 HVW2.out
 go_wp2_with fail
 have hbr:=Below.refl W2.heap.size W2
 have hbd:aE W2 W2.drew:=(Below.refl W2.heap.size W2).drew
 have HSW2:Hid (∀v,aE W2 v->v.cell? (ak wb 3)=some (.func (.func 27) #[ah wb] #[])/\v.cell? (ak q 0)=some (ae o.side)/\v.cell? (ak q 1)=some (ae o.pri)/\v.cell? (ak q 2)=some (af o.name)/\v.cell? (ak q 3)=some (.bool o.left)/\v.cell? (ak q 4)=some (.bool o.right)/\v.cell? (ak b off)=some (ae y0.k)/\v.cell? (ak b (off+1))=some (ae y0.n)/\v.cell? (ak b (off+2))=some (af y0.s)/\v.cell? (ak b (off+3))=some (.slice y0.A y0.len y0.cap)):=ad fun v hv=>HSS.out _ v (HVW2.later hv)
 have HTW2:Hid (∀v,aE W2 v->Calls prog 65 #[ah wb,af o.name] v fun e v'=>e=.returned (af T)/\aE W2 v'):=ad fun v hv=>HTX.out _ _ _ HVW2.out hv
 have HAW2:Hid (∀v,aE W2 v->Calls prog 27 #[ah wb,af T] v fun e v'=>e=am/\Hd W B wb bt way (((acc++aZ es way g (t.args.getD 0 aQ) o false)++[32])++T) v'):=ad fun v hv=>HAD.out _ T v (HVW2.later hv) (by have:=HLN.out;(try simp only[List.length_append,List.length_cons,List.length_nil]);omega)
 go_region_held3 (fun v=>v.cell? (ak wb 3)=some (.func (.func 27) #[ah wb] #[])/\v.cell? (ak q 0)=some (ae o.side)/\v.cell? (ak q 1)=some (ae o.pri)/\v.cell? (ak q 2)=some (af o.name)/\v.cell? (ak q 3)=some (.bool o.left)/\v.cell? (ak q 4)=some (.bool o.right)/\v.cell? (ak b off)=some (ae y0.k)/\v.cell? (ak b (off+1))=some (ae y0.n)/\v.cell? (ak b (off+2))=some (af y0.s)/\v.cell? (ak b (off+3))=some (.slice y0.A y0.len y0.cap))
  (first|(with_reducible exact HSW2.out _ (by assumption))|(with_reducible exact HSS.out _ _ (by assumption)))
  (first|(go_at_call 65;with_reducible refine(HTW2.out _ (by assumption)).mono ?_;rintro e v1 ⟨rfl,hb1⟩)|(go_at_call 27;with_reducible refine(HAW2.out _ (by assumption)).mono ?_;rintro e W3 ⟨rfl,hg⟩))
 have HVW3:=ad hg
 clear x0 x1 x2 x3 x4 x5 x6 x7 x8 x9 hbr hbd HSW2 HTW2 HAW2 hg
 go_wp2_with fail
 go_end0
 exact⟨rfl,by rw[HEN.out];simpa using HVW3.1,HFIN.out _ HVW3.2⟩
theorem lZ {es:List (dh×dv)} {way:Int} {n:Nat} (hC:jB es way n) (u:World) (B0 B wb bt bm:Nat) (acc:List UInt8) (x:TV) (t:Tm) (o:sI) (hn:t.size<=n+1) (hw:iF t) (hx:aO u B0 x t) (hnm:o.name=t.s) (hsd:o.side=2) (hl:t.args.length=2) (hK:jn u B0 B wb bt bm es way acc) (hlen:acc.length+6000*t.size<=10000000001):
 Calls prog 142 #[ah wb,pH o,.slice x.A x.len x.cap] u fun e u'=>e=am/\cw u' B wb bt way (acc++bq es way (gM es way) o t.args)/\Fr (bJ u B wb) u u':=by
 obtain⟨k1,k2,k3,k4,k5,-⟩:=hx.open
 obtain⟨g,hg⟩:∃g,g=gM es way:=⟨_,rfl⟩
 have hgl:∀i,i<t.args.length->∀m,(g (t.args.getD i aQ) m).length<=6000*(t.args.getD i aQ).size:=fun i hi m=>by rw[hg];exact fZ es way _ _ m aC (hw.arg hi)
 have hnl:o.name.length<=1000:=by rw[hnm];exact hw.name.1
 have htl:=gB way hnl
 rw[<-hg]
 obtain⟨T,hT⟩:∃T,T=eu way o.name:=⟨_,rfl⟩
 rw[<-hT]at htl
 obtain⟨F,hF⟩:∃F,F=acc++bq es way g o t.args:=⟨_,rfl⟩
 rw[<-hF]
 obtain⟨W,hW⟩:∃W,W=u.alloc (.cells #[ae o.side,ae o.pri,af o.name,.bool o.left,.bool o.right] 218):=⟨_,rfl⟩
 have hbW:aE u W:=by rw[hW];exact aB
 have ho0:W.heap[u.heap.size]?=some (.cells #[ae o.side,ae o.pri,af o.name,.bool o.left,.bool o.right] 218 (0,0)):=by rw[hW];exact az
 have hKW:=hK.later hbW
 have hxW:aO W B0 x t:=hx.blw (hK.low (Fr.of_below _ hbW))
 obtain⟨q,hq⟩:∃q,q=u.heap.size:=⟨_,rfl⟩
 rw[<-hq]at ho0
 have hne:q≠wb:=hKW.ne ho0 (by decide)
 obtain⟨b,off,y0,hA,hbB,hy0,m0,m1,m2,m3⟩:=mt hxW (i:=0) (by omega)
 simp only[Nat.zero_mul,Nat.add_zero]at m0 m1 m2 m3
 obtain⟨b',off',y1,hA',-,hy1,r0,r1,r2,r3⟩:=mt hxW (i:=1) (by omega)
 obtain⟨rfl,rfl⟩:=xi hA hA'
 clear hA'
 simp only[Nat.one_mul]at r0 r1 r2 r3
 have hxl:x.len=2:=by omega
 rw[hA,hxl]
 have HSS:Hid (∀a2 v,Hd W B wb bt way a2 v->v.cell? (ak wb 3)=some (.func (.func 27) #[ah wb] #[])/\v.cell? (ak q 0)=some (ae o.side)/\v.cell? (ak q 1)=some (ae o.pri)/\v.cell? (ak q 2)=some (af o.name)/\v.cell? (ak q 3)=some (.bool o.left)/\v.cell? (ak q 4)=some (.bool o.right)/\v.cell? (ak b off)=some (ae y0.k)/\v.cell? (ak b (off+1))=some (ae y0.n)/\v.cell? (ak b (off+2))=some (af y0.s)/\v.cell? (ak b (off+3))=some (.slice y0.A y0.len y0.cap)/\v.cell? (ak b (off+4))=some (ae y1.k)/\v.cell? (ak b (off+4+1))=some (ae y1.n)/\v.cell? (ak b (off+4+2))=some (af y1.s)/\v.cell? (ak b (off+4+3))=some (.slice y1.A y1.len y1.cap)):=ad fun a2 v hv=>by
  have e1:=(hKW.next hv.1 hv.2).put3.1
  obtain⟨g0,g1,g2,g3,g4,-⟩:=bw (bJ.keep hv.2 ho0 (by decide) hne)
  have hc:∀j,v.cell? (ak b j)=W.cell? (ak b j):=fun j=>World.cell?_of_block (w:=W) (a:=⟨b,j,none⟩) ((hKW.low hv.2).block b hbB)
  rw[hc,hc,hc,hc,hc,hc,hc,hc]
  exact⟨e1,g0,g1,g2,g3,g4,m0,m1,m2,m3,r0,r1,r2,r3⟩
 have HTX:Hid (∀a2 V v,Hd W B wb bt way a2 V->aE V v->Calls prog 65 #[ah wb,af o.name] v fun e v'=>e=.returned (af T)/\aE V v'):=ad fun a2 V v hV hv=>by
  have hk:=hKW.next (hV.later hv).1 (hV.later hv).2
  refine(iH v B wb bt way a2 o.name hk.at' hnl hk.env.bits).mono ?_
  rintro e v' ⟨rfl,hb'⟩
  exact⟨by rw[hT],hv.trans (hb'.mono hv.size)⟩
 have HAD:Hid (∀a2 Z v,Hd W B wb bt way a2 v->a2.length+Z.length<=100000000000->Calls prog 27 #[ah wb,af Z] v fun e v'=>e=am/\Hd W B wb bt way (a2++Z) v'):=ad fun a2 Z v hv hz=>by
  have hk:=hKW.next hv.1 hv.2
  refine(cM v B wb bt way a2 Z hk.at' hk.bu hz).mono ?_
  rintro e v' ⟨rfl,h1,h2⟩
  exact⟨rfl,h1,bJ.trans hv.2 h2⟩
 have HOP0:Hid (∀a2 same v,Hd W B wb bt way a2 v->a2.length+6000*(t.args.getD 0 aQ).size+2<=10000000000->Calls prog 233 #[ah wb,.agg #[ae y0.k,ae y0.n,af y0.s,.slice y0.A y0.len y0.cap],.agg #[ae o.side,ae o.pri,af o.name,.bool o.left,.bool o.right],.bool same] v fun e v'=>e=am/\Hd W B wb bt way (a2++aZ es way g (t.args.getD 0 aQ) o same) v'):=ad fun a2 same v hv hz=>by
  have hk:=hKW.next hv.1 hv.2
  rw[hg,<-aN]
  refine(fR hC v B0 B wb bt bm a2 y0 _ o same (by have:=dZ (t:=t) (i:=0) (by omega);omega) (hw.arg (by omega)) (hy0.blw (hKW.low hv.2)) hk hz).mono ?_
  rintro e v' ⟨rfl,h1,h2⟩
  exact⟨rfl,h1,bJ.trans hv.2 h2⟩
 have HOP1:Hid (∀a2 same v,Hd W B wb bt way a2 v->a2.length+6000*(t.args.getD 1 aQ).size+2<=10000000000->Calls prog 233 #[ah wb,.agg #[ae y1.k,ae y1.n,af y1.s,.slice y1.A y1.len y1.cap],.agg #[ae o.side,ae o.pri,af o.name,.bool o.left,.bool o.right],.bool same] v fun e v'=>e=am/\Hd W B wb bt way (a2++aZ es way g (t.args.getD 1 aQ) o same) v'):=ad fun a2 same v hv hz=>by
  have hk:=hKW.next hv.1 hv.2
  rw[hg,<-aN]
  refine(fR hC v B0 B wb bt bm a2 y1 _ o same (by have:=dZ (t:=t) (i:=1) (by omega);omega) (hw.arg (by omega)) (hy1.blw (hKW.low hv.2)) hk hz).mono ?_
  rintro e v' ⟨rfl,h1,h2⟩
  exact⟨rfl,h1,bJ.trans hv.2 h2⟩
 have HVW:Hid (Hd W B wb bt way acc W):=ad ⟨hKW.at',Fr.refl _ _⟩
 have HFIN:Hid (∀v,Fr (bJ W B wb) W v->Fr (bJ u B wb) u v):=ad fun v hv=>bJ.trans (Fr.of_below _ hbW) hv
 have HLN:Hid (acc.length+5002+(aZ es way g (t.args.getD 0 aQ) o o.left).length+6000*(t.args.getD 1 aQ).size+900<=10000000000/\acc.length+6000*(t.args.getD 0 aQ).size+900<=10000000000/\T.length<=5002):=ad (by
  have h1:=lm hl
  have h2:=ep (es:=es) (way:=way) (t.args.getD 0 aQ) (hgl 0 (by omega)) o o.left
  omega)
 have HEN1:Hid (o.name=[44]->F=acc++aZ es way g (t.args.getD 0 aQ) o o.left++[44]++aZ es way g (t.args.getD 1 aQ) o o.right):=ad fun h=>by
  rw[hF];unfold bq;rw[if_neg (by omega),if_neg (by omega),if_pos h];simp
 have HEN2:Hid (¬o.name=[44]->F=acc++aZ es way g (t.args.getD 0 aQ) o o.left++[32]++T++[32]++aZ es way g (t.args.getD 1 aQ) o o.right):=ad fun h=>by
  rw[hF];unfold bq;rw[if_neg (by omega),if_neg (by omega),if_neg h,hT];simp
 have s1:(o.side==1)=false:=by rw[hsd];rfl
 have s3:(o.side==3)=false:=by rw[hsd];rfl
 clear hC hn hw hx hnm hsd hl hK hlen k1 k2 k3 k4 k5 hg hgl hnl htl hT hF hbW ho0 hKW hxW hne hA hbB hy0 hy1 r0 r1 r2 r3 m0 m1 m2 m3 hxl
 unfold pH
 go_enter func142,ntmps142
 go_upto_region 1 with fail
 rw[<-hW,<-hq]
 clear hW hq
 obtain⟨x0,x1,x2,x3,x4,x5,x6,x7,x8,x9,x10,x11,x12,x13⟩:=HSS.out _ W HVW.out
 go_wp2_with fail
 have hbr:=Below.refl W.heap.size W
 have hbd:aE W W.drew:=(Below.refl W.heap.size W).drew
 have HSW:Hid (∀v,aE W v->v.cell? (ak wb 3)=some (.func (.func 27) #[ah wb] #[])/\v.cell? (ak q 0)=some (ae o.side)/\v.cell? (ak q 1)=some (ae o.pri)/\v.cell? (ak q 2)=some (af o.name)/\v.cell? (ak q 3)=some (.bool o.left)/\v.cell? (ak q 4)=some (.bool o.right)/\v.cell? (ak b off)=some (ae y0.k)/\v.cell? (ak b (off+1))=some (ae y0.n)/\v.cell? (ak b (off+2))=some (af y0.s)/\v.cell? (ak b (off+3))=some (.slice y0.A y0.len y0.cap)/\v.cell? (ak b (off+4))=some (ae y1.k)/\v.cell? (ak b (off+4+1))=some (ae y1.n)/\v.cell? (ak b (off+4+2))=some (af y1.s)/\v.cell? (ak b (off+4+3))=some (.slice y1.A y1.len y1.cap)):=ad fun v hv=>HSS.out _ v (HVW.later hv)
 have HOW:Hid (∀v,aE W v->Calls prog 233 #[ah wb,.agg #[ae y0.k,ae y0.n,af y0.s,.slice y0.A y0.len y0.cap],.agg #[ae o.side,ae o.pri,af o.name,.bool o.left,.bool o.right],.bool o.left] v fun e v'=>e=am/\Hd W B wb bt way (acc++aZ es way g (t.args.getD 0 aQ) o o.left) v'):=ad fun v hv=>HOP0.out _ o.left v (HVW.later hv) (by have:=HLN.out;(try simp only[List.length_append,List.length_cons,List.length_nil]);omega)
 go_region_held3 (fun v=>v.cell? (ak wb 3)=some (.func (.func 27) #[ah wb] #[])/\v.cell? (ak q 0)=some (ae o.side)/\v.cell? (ak q 1)=some (ae o.pri)/\v.cell? (ak q 2)=some (af o.name)/\v.cell? (ak q 3)=some (.bool o.left)/\v.cell? (ak q 4)=some (.bool o.right)/\v.cell? (ak b off)=some (ae y0.k)/\v.cell? (ak b (off+1))=some (ae y0.n)/\v.cell? (ak b (off+2))=some (af y0.s)/\v.cell? (ak b (off+3))=some (.slice y0.A y0.len y0.cap)/\v.cell? (ak b (off+4))=some (ae y1.k)/\v.cell? (ak b (off+4+1))=some (ae y1.n)/\v.cell? (ak b (off+4+2))=some (af y1.s)/\v.cell? (ak b (off+4+3))=some (.slice y1.A y1.len y1.cap))
  (first|(with_reducible exact HSW.out _ (by assumption))|(with_reducible exact HSS.out _ _ (by assumption)))
  (first|(go_at_call 233;with_reducible refine(HOW.out _ (by assumption)).mono ?_;rintro e W1 ⟨rfl,hg⟩))
 have HVW1:=ad hg
 clear x0 x1 x2 x3 x4 x5 x6 x7 x8 x9 x10 x11 x12 x13 hbr hbd HSW HOW hg
 obtain⟨x0,x1,x2,x3,x4,x5,x6,x7,x8,x9,x10,x11,x12,x13⟩:=HSS.out _ W1 HVW1.out
 by_cases hcm:o.name=[44]
 ·have b1:(o.name==[44])=true:=by rw[hcm];rfl
  have HCM:=ad hcm
  clear hcm
  go_wp2_with fail
  refine(HAD.out _ [44] W1 HVW1.out (by have:=HLN.out;(try simp only[List.length_append,List.length_cons,List.length_nil]);omega)).mono ?_
  rintro e W2 ⟨rfl,hg⟩
  have HVW2:=ad hg
  clear x0 x1 x2 x3 x4 x5 x6 x7 x8 x9 x10 x11 x12 x13 hg
  obtain⟨x0,x1,x2,x3,x4,x5,x6,x7,x8,x9,x10,x11,x12,x13⟩:=HSS.out _ W2 HVW2.out
  go_wp2_with fail
  have hbr:=Below.refl W2.heap.size W2
  have hbd:aE W2 W2.drew:=(Below.refl W2.heap.size W2).drew
  have HSW2:Hid (∀v,aE W2 v->v.cell? (ak wb 3)=some (.func (.func 27) #[ah wb] #[])/\v.cell? (ak q 0)=some (ae o.side)/\v.cell? (ak q 1)=some (ae o.pri)/\v.cell? (ak q 2)=some (af o.name)/\v.cell? (ak q 3)=some (.bool o.left)/\v.cell? (ak q 4)=some (.bool o.right)/\v.cell? (ak b off)=some (ae y0.k)/\v.cell? (ak b (off+1))=some (ae y0.n)/\v.cell? (ak b (off+2))=some (af y0.s)/\v.cell? (ak b (off+3))=some (.slice y0.A y0.len y0.cap)/\v.cell? (ak b (off+4))=some (ae y1.k)/\v.cell? (ak b (off+4+1))=some (ae y1.n)/\v.cell? (ak b (off+4+2))=some (af y1.s)/\v.cell? (ak b (off+4+3))=some (.slice y1.A y1.len y1.cap)):=ad fun v hv=>HSS.out _ v (HVW2.later hv)
  have HOW2:Hid (∀v,aE W2 v->Calls prog 233 #[ah wb,.agg #[ae y1.k,ae y1.n,af y1.s,.slice y1.A y1.len y1.cap],.agg #[ae o.side,ae o.pri,af o.name,.bool o.left,.bool o.right],.bool o.right] v fun e v'=>e=am/\Hd W B wb bt way (((acc++aZ es way g (t.args.getD 0 aQ) o o.left)++[44])++aZ es way g (t.args.getD 1 aQ) o o.right) v'):=ad fun v hv=>HOP1.out _ o.right v (HVW2.later hv) (by have:=HLN.out;(try simp only[List.length_append,List.length_cons,List.length_nil]);omega)
  go_region_held3 (fun v=>v.cell? (ak wb 3)=some (.func (.func 27) #[ah wb] #[])/\v.cell? (ak q 0)=some (ae o.side)/\v.cell? (ak q 1)=some (ae o.pri)/\v.cell? (ak q 2)=some (af o.name)/\v.cell? (ak q 3)=some (.bool o.left)/\v.cell? (ak q 4)=some (.bool o.right)/\v.cell? (ak b off)=some (ae y0.k)/\v.cell? (ak b (off+1))=some (ae y0.n)/\v.cell? (ak b (off+2))=some (af y0.s)/\v.cell? (ak b (off+3))=some (.slice y0.A y0.len y0.cap)/\v.cell? (ak b (off+4))=some (ae y1.k)/\v.cell? (ak b (off+4+1))=some (ae y1.n)/\v.cell? (ak b (off+4+2))=some (af y1.s)/\v.cell? (ak b (off+4+3))=some (.slice y1.A y1.len y1.cap))
   (first|(with_reducible exact HSW2.out _ (by assumption))|(with_reducible exact HSS.out _ _ (by assumption)))
   (first|(go_at_call 233;with_reducible refine(HOW2.out _ (by assumption)).mono ?_;rintro e W3 ⟨rfl,hg⟩))
  have HVW3:=ad hg
  clear x0 x1 x2 x3 x4 x5 x6 x7 x8 x9 x10 x11 x12 x13 hbr hbd HSW2 HOW2 hg
  go_wp2_with fail
  go_end0
  exact⟨rfl,by rw[HEN1.out HCM.out];simpa using HVW3.1,HFIN.out _ HVW3.2⟩
 ·have b1:(o.name==[44])=false:=beq_eq_false_iff_ne.2 hcm
  have HCM:=ad hcm
  clear hcm
  go_wp2_with fail
  refine(HAD.out _ [32] W1 HVW1.out (by have:=HLN.out;(try simp only[List.length_append,List.length_cons,List.length_nil]);omega)).mono ?_
  rintro e W2 ⟨rfl,hg⟩
  have HVW2:=ad hg
  clear x0 x1 x2 x3 x4 x5 x6 x7 x8 x9 x10 x11 x12 x13 hg
  obtain⟨x0,x1,x2,x3,x4,x5,x6,x7,x8,x9,x10,x11,x12,x13⟩:=HSS.out _ W2 HVW2.out
  go_wp2_with fail
  have hbr:=Below.refl W2.heap.size W2
  have hbd:aE W2 W2.drew:=(Below.refl W2.heap.size W2).drew
  have HSW2:Hid (∀v,aE W2 v->v.cell? (ak wb 3)=some (.func (.func 27) #[ah wb] #[])/\v.cell? (ak q 0)=some (ae o.side)/\v.cell? (ak q 1)=some (ae o.pri)/\v.cell? (ak q 2)=some (af o.name)/\v.cell? (ak q 3)=some (.bool o.left)/\v.cell? (ak q 4)=some (.bool o.right)/\v.cell? (ak b off)=some (ae y0.k)/\v.cell? (ak b (off+1))=some (ae y0.n)/\v.cell? (ak b (off+2))=some (af y0.s)/\v.cell? (ak b (off+3))=some (.slice y0.A y0.len y0.cap)/\v.cell? (ak b (off+4))=some (ae y1.k)/\v.cell? (ak b (off+4+1))=some (ae y1.n)/\v.cell? (ak b (off+4+2))=some (af y1.s)/\v.cell? (ak b (off+4+3))=some (.slice y1.A y1.len y1.cap)):=ad fun v hv=>HSS.out _ v (HVW2.later hv)
  have HTW2:Hid (∀v,aE W2 v->Calls prog 65 #[ah wb,af o.name] v fun e v'=>e=.returned (af T)/\aE W2 v'):=ad fun v hv=>HTX.out _ _ _ HVW2.out hv
  have HAW2:Hid (∀v,aE W2 v->Calls prog 27 #[ah wb,af T] v fun e v'=>e=am/\Hd W B wb bt way (((acc++aZ es way g (t.args.getD 0 aQ) o o.left)++[32])++T) v'):=ad fun v hv=>HAD.out _ T v (HVW2.later hv) (by have:=HLN.out;(try simp only[List.length_append,List.length_cons,List.length_nil]);omega)
  go_region_held3 (fun v=>v.cell? (ak wb 3)=some (.func (.func 27) #[ah wb] #[])/\v.cell? (ak q 0)=some (ae o.side)/\v.cell? (ak q 1)=some (ae o.pri)/\v.cell? (ak q 2)=some (af o.name)/\v.cell? (ak q 3)=some (.bool o.left)/\v.cell? (ak q 4)=some (.bool o.right)/\v.cell? (ak b off)=some (ae y0.k)/\v.cell? (ak b (off+1))=some (ae y0.n)/\v.cell? (ak b (off+2))=some (af y0.s)/\v.cell? (ak b (off+3))=some (.slice y0.A y0.len y0.cap)/\v.cell? (ak b (off+4))=some (ae y1.k)/\v.cell? (ak b (off+4+1))=some (ae y1.n)/\v.cell? (ak b (off+4+2))=some (af y1.s)/\v.cell? (ak b (off+4+3))=some (.slice y1.A y1.len y1.cap))
   (first|(with_reducible exact HSW2.out _ (by assumption))|(with_reducible exact HSS.out _ _ (by assumption)))
   (first|(go_at_call 65;with_reducible refine(HTW2.out _ (by assumption)).mono ?_;rintro e v1 ⟨rfl,hb1⟩)|(go_at_call 27;with_reducible refine(HAW2.out _ (by assumption)).mono ?_;rintro e W3 ⟨rfl,hg⟩))
  have HVW3:=ad hg
  clear x0 x1 x2 x3 x4 x5 x6 x7 x8 x9 x10 x11 x12 x13 hbr hbd HSW2 HTW2 HAW2 hg
  obtain⟨x0,x1,x2,x3,x4,x5,x6,x7,x8,x9,x10,x11,x12,x13⟩:=HSS.out _ W3 HVW3.out
  go_wp2_with fail
  refine(HAD.out _ [32] W3 HVW3.out (by have:=HLN.out;(try simp only[List.length_append,List.length_cons,List.length_nil]);omega)).mono ?_
  rintro e W4 ⟨rfl,hg⟩
  have HVW4:=ad hg
  clear x0 x1 x2 x3 x4 x5 x6 x7 x8 x9 x10 x11 x12 x13 hg
  obtain⟨x0,x1,x2,x3,x4,x5,x6,x7,x8,x9,x10,x11,x12,x13⟩:=HSS.out _ W4 HVW4.out
  go_wp2_with fail
  have hbr:=Below.refl W4.heap.size W4
  have hbd:aE W4 W4.drew:=(Below.refl W4.heap.size W4).drew
  have HSW4:Hid (∀v,aE W4 v->v.cell? (ak wb 3)=some (.func (.func 27) #[ah wb] #[])/\v.cell? (ak q 0)=some (ae o.side)/\v.cell? (ak q 1)=some (ae o.pri)/\v.cell? (ak q 2)=some (af o.name)/\v.cell? (ak q 3)=some (.bool o.left)/\v.cell? (ak q 4)=some (.bool o.right)/\v.cell? (ak b off)=some (ae y0.k)/\v.cell? (ak b (off+1))=some (ae y0.n)/\v.cell? (ak b (off+2))=some (af y0.s)/\v.cell? (ak b (off+3))=some (.slice y0.A y0.len y0.cap)/\v.cell? (ak b (off+4))=some (ae y1.k)/\v.cell? (ak b (off+4+1))=some (ae y1.n)/\v.cell? (ak b (off+4+2))=some (af y1.s)/\v.cell? (ak b (off+4+3))=some (.slice y1.A y1.len y1.cap)):=ad fun v hv=>HSS.out _ v (HVW4.later hv)
  have HOW4:Hid (∀v,aE W4 v->Calls prog 233 #[ah wb,.agg #[ae y1.k,ae y1.n,af y1.s,.slice y1.A y1.len y1.cap],.agg #[ae o.side,ae o.pri,af o.name,.bool o.left,.bool o.right],.bool o.right] v fun e v'=>e=am/\Hd W B wb bt way (((((acc++aZ es way g (t.args.getD 0 aQ) o o.left)++[32])++T)++[32])++aZ es way g (t.args.getD 1 aQ) o o.right) v'):=ad fun v hv=>HOP1.out _ o.right v (HVW4.later hv) (by have:=HLN.out;(try simp only[List.length_append,List.length_cons,List.length_nil]);omega)
  go_region_held3 (fun v=>v.cell? (ak wb 3)=some (.func (.func 27) #[ah wb] #[])/\v.cell? (ak q 0)=some (ae o.side)/\v.cell? (ak q 1)=some (ae o.pri)/\v.cell? (ak q 2)=some (af o.name)/\v.cell? (ak q 3)=some (.bool o.left)/\v.cell? (ak q 4)=some (.bool o.right)/\v.cell? (ak b off)=some (ae y0.k)/\v.cell? (ak b (off+1))=some (ae y0.n)/\v.cell? (ak b (off+2))=some (af y0.s)/\v.cell? (ak b (off+3))=some (.slice y0.A y0.len y0.cap)/\v.cell? (ak b (off+4))=some (ae y1.k)/\v.cell? (ak b (off+4+1))=some (ae y1.n)/\v.cell? (ak b (off+4+2))=some (af y1.s)/\v.cell? (ak b (off+4+3))=some (.slice y1.A y1.len y1.cap))
   (first|(with_reducible exact HSW4.out _ (by assumption))|(with_reducible exact HSS.out _ _ (by assumption)))
   (first|(go_at_call 233;with_reducible refine(HOW4.out _ (by assumption)).mono ?_;rintro e W5 ⟨rfl,hg⟩))
  have HVW5:=ad hg
  clear x0 x1 x2 x3 x4 x5 x6 x7 x8 x9 x10 x11 x12 x13 hbr hbd HSW4 HOW4 hg
  go_wp2_with fail
  go_end0
  exact⟨rfl,by rw[HEN2.out HCM.out];simpa using HVW5.1,HFIN.out _ HVW5.2⟩
end
end Go.Proofs.YtigeofkllldilaaGreatDoor
