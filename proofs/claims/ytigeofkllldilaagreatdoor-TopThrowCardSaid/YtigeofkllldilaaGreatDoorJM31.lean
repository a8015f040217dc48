import Derived.Test.YtigeofkllldilaaGreatDoorJM29
import Derived.Test.YtigeofkllldilaaGreatDoorJM30
set_option maxHeartbeats 32000000
set_option maxRecDepth 100000
set_option linter.unusedSectionVars false
open Go.Proofs.Tryz
namespace Go.Proofs.YtigeofkllldilaaGreatDoor
section
open Go.RowKit Go.Maps
theorem qL {es:List (dh×dv)} {way:Int} {n:Nat} (hC:jB es way n) (u:World) (B0 B wb bt bm:Nat) (acc:List UInt8) (x:TV) (t:Tm) (o:sI) (hn:t.size<=n+1) (hw:iF t) (hx:aO u B0 x t) (ho:dY es way t=some o) (hK:jn u B0 B wb bt bm es way acc) (hlen:acc.length+6000*t.size<=10000000001):
 Calls prog 142 #[ah wb,pH o,.slice x.A x.len x.cap] u fun e u'=>e=am/\cw u' B wb bt way (acc++bq es way (gM es way) o t.args)/\Fr (bJ u B wb) u u':=by
 obtain⟨h1,h2,h3⟩:=oB ho
 rcases h3 with⟨h4|h4,h5⟩|⟨h4,h5⟩
 ·exact nc hC u B0 B wb bt bm acc x t o hn hw hx h1 h4 h5 hK hlen
 ·exact nI hC u B0 B wb bt bm acc x t o hn hw hx h1 h4 h5 hK hlen
 ·exact lZ hC u B0 B wb bt bm acc x t o hn hw hx h1 h4 h5 hK hlen
theorem Ag {es:List (dh×dv)} {way:Int} {n:Nat} (hC:jB es way n):C2 es way (n+1):=by
 intro u B0 B wb bt bm acc x t most hn hw hk4 hx hK hlen
 obtain⟨k1,k2,k3,k4,k5,-⟩:=hx.open
 rw[Fh hk4]
 obtain⟨g,hg⟩:∃g,g=gM es way:=⟨_,rfl⟩
 rw[<-hg]
 have hgl:∀y:Tm,iF y->∀m,(g y m).length<=6000*y.size:=fun y hy m=>by rw[hg];exact fZ es way y.size y m aC hy
 have hsl:=hw.name.1
 have htl:=gB way hsl
 obtain⟨T,hT⟩:∃T,T=eu way t.s:=⟨_,rfl⟩
 rw[<-hT]at htl
 obtain⟨F,hF⟩:∃F,F=acc++eW es way g t most:=⟨_,rfl⟩
 rw[<-hF]
 obtain⟨W,hW⟩:∃W,W=u.alloc (.cells #[ae x.k,ae x.n,af x.s,.slice x.A x.len x.cap] 27):=⟨_,rfl⟩
 have hbW:aE u W:=by rw[hW];exact aB
 have hx0:W.heap[u.heap.size]?=some (.cells #[ae x.k,ae x.n,af x.s,.slice x.A x.len x.cap] 27 (0,0)):=by rw[hW];exact az
 have hKW:=hK.later hbW
 have hxW:aO W B0 x t:=hx.blw (hK.low (Fr.of_below _ hbW))
 obtain⟨q,hq⟩:∃q,q=u.heap.size:=⟨_,rfl⟩
 rw[<-hq]at hx0
 have hne:q≠wb:=hKW.ne hx0 (by decide)
 have HSS:Hid (∀a2 v,Hd W B wb bt way a2 v->v.cell? (ak wb 3)=some (.func (.func 27) #[ah wb] #[])/\v.cell? (ak wb 1)=some (ae way)/\v.cell? (ak q 0)=some (ae x.k)/\v.cell? (ak q 1)=some (ae x.n)/\v.cell? (ak q 2)=some (af x.s)/\v.cell? (ak q 3)=some (.slice x.A x.len x.cap)):=ad fun a2 v hv=>by
  obtain⟨e3,-,e1⟩:=(hKW.next hv.1 hv.2).put3
  obtain⟨g0,g1,g2,g3,-⟩:=aH (bJ.keep hv.2 hx0 (by decide) hne)
  exact⟨e3,e1,g0,g1,g2,g3⟩
 have HTX:Hid (∀a2 V v,Hd W B wb bt way a2 V->aE V v->Calls prog 65 #[ah wb,af x.s] v fun e v'=>e=.returned (af T)/\aE V v'):=ad fun a2 V v hV hv=>by
  have hk:=hKW.next (hV.later hv).1 (hV.later hv).2
  rw[<-k3]
  refine(iH v B wb bt way a2 t.s hk.at' hsl hk.env.bits).mono ?_
  rintro e v' ⟨rfl,hb'⟩
  exact⟨by rw[hT],hv.trans (hb'.mono hv.size)⟩
 have HAD:Hid (∀a2 Z v,Hd W B wb bt way a2 v->a2.length+Z.length<=100000000000->Calls prog 27 #[ah wb,af Z] v fun e v'=>e=am/\Hd W B wb bt way (a2++Z) v'):=ad fun a2 Z v hv hz=>by
  have hk:=hKW.next hv.1 hv.2
  refine(cM v B wb bt way a2 Z hk.at' hk.bu hz).mono ?_
  rintro e v' ⟨rfl,h1,h2⟩
  exact⟨rfl,h1,bJ.trans hv.2 h2⟩
 have HIT:Hid (∀a2 v,Hd W B wb bt way a2 v->a2.length+6000*Tm.sizes t.args+900<=10000000000->Calls prog 141 #[ah wb,.slice x.A x.len x.cap] v fun e v'=>e=am/\Hd W B wb bt way (a2++bG g t.args) v'):=ad fun a2 v hv hz=>by
  have hk:=hKW.next hv.1 hv.2
  rw[hg]
  refine(uh hC v B0 B wb bt bm a2 x t (fun y hy=>by have h1:=dD t.args y hy;have h2:=bE t;omega) hw (hxW.blw (hKW.low hv.2)) hk hz).mono ?_
  rintro e v' ⟨rfl,h1,h2⟩
  exact⟨rfl,h1,bJ.trans hv.2 h2⟩
 have HLI:Hid (dj t=true->∀v,Hd W B wb bt way acc v->Calls prog 139 #[ah wb,.agg #[ae x.k,ae x.n,af x.s,.slice x.A x.len x.cap]] v fun e v'=>e=am/\Hd W B wb bt way (acc++lM g t) v'):=ad fun hc v hv=>by
  have hk:=hKW.next hv.1 hv.2
  rw[hg,<-aN]
  refine(xp hC v B0 B wb bt bm acc x t hn hw (hxW.blw (hKW.low hv.2)) hc hk hlen).mono ?_
  rintro e v' ⟨rfl,h1,h2⟩
  exact⟨rfl,h1,bJ.trans hv.2 h2⟩
 have HOE:Hid (∀o a2 v,dY es way t=some o->Hd W B wb bt way a2 v->a2.length<=acc.length+1->Calls prog 142 #[ah wb,.agg #[ae o.side,ae o.pri,af o.name,.bool o.left,.bool o.right],.slice x.A x.len x.cap] v fun e v'=>e=am/\Hd W B wb bt way (a2++bq es way g o t.args) v'):=ad fun o a2 v ho hv hz=>by
  have hk:=hKW.next hv.1 hv.2
  rw[hg]
  refine(qL hC v B0 B wb bt bm a2 x t o hn hw (hxW.blw (hKW.low hv.2)) ho hk (by omega)).mono ?_
  rintro e v' ⟨rfl,h1,h2⟩
  exact⟨rfl,h1,bJ.trans hv.2 h2⟩
 have HOP:Hid (∀a2 v,Hd W B wb bt way a2 v->Calls prog 140 #[ah wb,.agg #[ae x.k,ae x.n,af x.s,.slice x.A x.len x.cap]] v fun e v'=>e=.returned (ik (dY es way t))/\aE v v'):=ad fun a2 v hv=>by
  have hk:=hKW.next hv.1 hv.2
  rw[<-aN]
  exact jA v B wb bt bm es way a2 hk.at' hk.env B0 x t (hxW.blw (hKW.low hv.2)) (Nat.le_trans hk.b0B hk.bu) (by rw[<-k3];exact hsl)
 have HIS:Hid (∀v,Hd W B wb bt way acc v->Calls prog 138 #[.agg #[ae x.k,ae x.n,af x.s,.slice x.A x.len x.cap]] v fun e v'=>e=.returned (.bool (dj t))/\aE v v'):=ad fun v hv=>by
  rw[<-aN]
  exact mn v B0 x t (hxW.blw (hKW.low hv.2))
 have HTM:Hid (t.args.length=1->∃(b off:Nat) (y:TV),x.A=some (ak b off)/\b<W.heap.size/\(∀a2 v,Hd W B wb bt way a2 v->(v.cell? (ak b off)=some (ae y.k)/\v.cell? (ak b (off+1))=some (ae y.n)/\v.cell? (ak b (off+2))=some (af y.s)/\v.cell? (ak b (off+3))=some (.slice y.A y.len y.cap))/\(a2.length<=acc.length+1->Calls prog 28 #[ah wb,.agg #[ae y.k,ae y.n,af y.s,.slice y.A y.len y.cap],ae 1200] v fun e v'=>e=am/\Hd W B wb bt way (a2++g (t.args.getD 0 aQ) 1200) v'))):=ad fun hl=>by
  obtain⟨b,off,y,hA,hbB,hy,m0,m1,m2,m3⟩:=mt hxW (i:=0) (by omega)
  simp only[Nat.zero_mul,Nat.add_zero]at m0 m1 m2 m3
  refine⟨b,off,y,hA,by have:=hKW.b0B;have:=hKW.bu;omega,fun a2 v hv=>?_⟩
  have hc:∀j,v.cell? (ak b j)=W.cell? (ak b j):=fun j=>World.cell?_of_block (w:=W) (a:=⟨b,j,none⟩) ((hKW.low hv.2).block b hbB)
  rw[hc,hc,hc,hc]
  refine⟨⟨m0,m1,m2,m3⟩,fun hz=>?_⟩
  have hk:=hKW.next hv.1 hv.2
  have hs:=fu hl
  rw[hg,<-aN]
  refine(hC v B0 B wb bt bm a2 y _ 1200 (by omega) (hw.arg (by omega)) (hy.blw (hKW.low hv.2)) hk (by omega)).mono ?_
  rintro e v' ⟨rfl,h1,h2⟩
  exact⟨rfl,h1,bJ.trans hv.2 h2⟩
 have HBU:Hid (B<=W.heap.size):=ad hKW.bu
 have HVW:Hid (Hd W B wb bt way acc W):=ad ⟨hKW.at',Fr.refl _ _⟩
 have HFIN:Hid (∀v,Fr (bJ W B wb) W v->Fr (bJ u B wb) u v):=ad fun v hv=>bJ.trans (Fr.of_below _ hbW) hv
 have HLN:Hid (acc.length+5002+6000*Tm.sizes t.args+950<=10000000000/\T.length<=5002/\acc.length+6000*t.size<=10000000000):=ad (by have:=bE t;omega)
 have HGC:Hid ((bG g t.args).length<=6000*Tm.sizes t.args+255):=ad (by
  have h1:=gr (g:=g) t.args fun y hy=>hgl y (hw.mem hy)
  have:=hw.name.2
  omega)
 have HG1:Hid (t.args.length=1->(g (t.args.getD 0 aQ) 1200).length+6000<=6000*t.size):=ad fun hl=>by
  have h1:=hgl _ (hw.arg (i:=0) (by omega)) 1200
  have:=fu hl
  omega
 have HGO:Hid (∀o,dY es way t=some o->(bq es way g o t.args).length+900<=6000*t.size):=ad fun o ho=>lB hw ho fun i hi m=>hgl _ (hw.arg hi) m
 have HF:Hid (F=acc++eW es way g t most):=ad hF
 have HX:Hid (t.s=x.s/\t.args.length=x.len/\T=eu way t.s):=ad ⟨k3,k4,hT⟩
 have hbW2:q<W.heap.size:=(ap hx0).1
 clear hC hn hw hk4 hx hK hlen k1 k2 k3 k4 k5 hg hgl hsl htl hT hF hbW hx0 hKW hxW hne
 rw[aN]
 obtain⟨Q,hQ⟩:∃Q,Q=dj t:=⟨_,rfl⟩
 rw[<-hQ]at HIS
 have HQ:=ad hQ
 clear hQ
 cases Q with
 |true=>
  have HE:Hid (F=acc++lM g t):=ad (by rw[HF.out];unfold eW;rw[if_pos HQ.symm])
  obtain⟨x0,x1,x2,x3,x4,x5⟩:=HSS.out _ W HVW.out
  go_enter func66,ntmps66
  go_upto_region 1 with fail
  rw[<-hW,<-hq]
  clear hW hq
  go_wp2_with fail
  refine(HIS.out W HVW.out).mono ?_
  rintro e W1 ⟨rfl,hb1⟩
  have HVW1:=ad (HVW.later hb1)
  clear x0 x1 x2 x3 x4 x5 hb1
  obtain⟨x0,x1,x2,x3,x4,x5⟩:=HSS.out _ W1 HVW1.out
  go_wp2_with fail
  refine(HLI.out HQ.symm W1 HVW1.out).mono ?_
  rintro e W2 ⟨rfl,hg⟩
  have HVW2:=ad hg
  clear x0 x1 x2 x3 x4 x5 hg
  go_wp2_with fail
  (try simp only[Exit.inBlock,Exit.then])
  refine bodyPost_ret (v:=.tuple #[]) (by simp[results,results66,go_sem]) rfl ?_
  exact⟨rfl,by rw[HE.out];simpa using HVW2.1,HFIN.out _ HVW2.2⟩
 |false=>
  have HQF:Hid (¬dj t=true):=ad (by rw[<-HQ.out];decide)
  by_cases hw2:way=2
  ·have b1:(way !=2)=false:=by rw[hw2];rfl
   have b1':(way==2)=true:=by rw[hw2];rfl
   have hnb:¬(way≠2/\t.s=[123,125]/\t.args.length=1):=fun h=>h.1 hw2
   clear hw2
   cases hO:dY es way t with
   |none=>
    rw[hO]at HOP
    have HE:Hid (F=acc++T++[40]++bG g t.args++[41]):=ad (by rw[HF.out];unfold eW;rw[if_neg HQF.out,if_neg hnb,hO,HX.2.2];simp)
    unfold ik Fb pH at HOP
    simp only[Option.getD_none,Option.isSome_none]at HOP
    clear hO hnb
    obtain⟨x0,x1,x2,x3,x4,x5⟩:=HSS.out _ W HVW.out
    go_enter func66,ntmps66
    go_upto_region 1 with fail
    rw[<-hW,<-hq]
    clear hW hq
    go_wp2_with fail
    refine(HIS.out W HVW.out).mono ?_
    rintro e W1 ⟨rfl,hb1⟩
    have HVW1:=ad (HVW.later hb1)
    clear x0 x1 x2 x3 x4 x5 hb1
    obtain⟨x0,x1,x2,x3,x4,x5⟩:=HSS.out _ W1 HVW1.out
    go_wp2_with fail
    refine(HOP.out _ W1 HVW1.out).mono ?_
    rintro e W2 ⟨rfl,hb2⟩
    go_upto_region 9 with fail
    obtain⟨V,hV⟩:∃V,V=W2.alloc (.cells #[ae 0,ae 0,ai,.bool false,.bool false] 218):=⟨_,rfl⟩
    have hbV:aE W1 V:=by rw[hV];exact hb2.alloc hb2.size _
    have hp0:V.heap[W2.heap.size]?=some (.cells #[ae 0,ae 0,ai,.bool false,.bool false] 218 (0,0)):=by rw[hV];exact az
    have HVV:=ad (HVW1.later hbV)
    obtain⟨p,hp⟩:∃p,p=W2.heap.size:=⟨_,rfl⟩
    rw[<-hp]at hp0
    rw[<-hV,<-hp]
    have hpB:q<p:=by have:=hb2.size;have:=HVW1.2.size;omega
    have HP0:=ad hp0
    clear hV hp hb2 hbV hp0 x0 x1 x2 x3 x4 x5
    obtain⟨x0,x1,x2,x3,x4,x5⟩:=HSS.out _ V HVV.out
    go_wp2_with fail
    have hbr:=Below.refl V.heap.size V
    have hbd:aE V V.drew:=(Below.refl V.heap.size V).drew
    have HSV:Hid (∀v,aE V v->v.cell? (ak wb 3)=some (.func (.func 27) #[ah wb] #[])/\v.cell? (ak wb 1)=some (ae way)/\v.cell? (ak q 0)=some (ae x.k)/\v.cell? (ak q 1)=some (ae x.n)/\v.cell? (ak q 2)=some (af x.s)/\v.cell? (ak q 3)=some (.slice x.A x.len x.cap)):=ad fun v hv=>HSS.out _ v (HVV.later hv)
    have HTV:Hid (∀v,aE V v->Calls prog 65 #[ah wb,af x.s] v fun e v'=>e=.returned (af T)/\aE V v'):=ad fun v hv=>HTX.out _ _ _ HVV.out hv
    have HAV:Hid (∀v,aE V v->Calls prog 27 #[ah wb,af T] v fun e v'=>e=am/\Hd W B wb bt way (acc++T) v'):=ad fun v hv=>HAD.out _ T v (HVV.later hv) (by have:=HLN.out;first|omega|(simp only[List.length_cons,List.length_nil];omega)|(simp only[List.length_append,List.length_cons,List.length_nil];omega))
    go_region_held3 (fun v=>v.cell? (ak wb 3)=some (.func (.func 27) #[ah wb] #[])/\v.cell? (ak wb 1)=some (ae way)/\v.cell? (ak q 0)=some (ae x.k)/\v.cell? (ak q 1)=some (ae x.n)/\v.cell? (ak q 2)=some (af x.s)/\v.cell? (ak q 3)=some (.slice x.A x.len x.cap))
     (first|(with_reducible exact HSV.out _ (by assumption))|(with_reducible exact HSS.out _ _ (by assumption)))
     (first|(go_at_call 65;with_reducible refine(HTV.out _ (by assumption)).mono ?_;rintro e v1 ⟨rfl,hb1⟩)|(go_at_call 27;with_reducible refine(HAV.out _ (by assumption)).mono ?_;rintro e W3 ⟨rfl,hg⟩))
    have HVW3:=ad hg
    clear x0 x1 x2 x3 x4 x5 hbr hbd HSV HTV HAV hg
    obtain⟨x0,x1,x2,x3,x4,x5⟩:=HSS.out _ W3 HVW3.out
    go_wp2_with fail
    refine(HAD.out _ [40] W3 HVW3.out (by have:=HLN.out;first|omega|(simp only[List.length_cons,List.length_nil];omega)|(simp only[List.length_append,List.length_cons,List.length_nil];omega))).mono ?_
    rintro e W4 ⟨rfl,hg⟩
    have HVW4:=ad hg
    clear x0 x1 x2 x3 x4 x5 hg
    obtain⟨x0,x1,x2,x3,x4,x5⟩:=HSS.out _ W4 HVW4.out
    go_wp2_with fail
    refine(HIT.out _ W4 HVW4.out (by have:=HLN.out;first|omega|(simp only[List.length_cons,List.length_nil];omega)|(simp only[List.length_append,List.length_cons,List.length_nil];omega))).mono ?_
    rintro e W5 ⟨rfl,hg⟩
    have HVW5:=ad hg
    clear x0 x1 x2 x3 x4 x5 hg
    obtain⟨x0,x1,x2,x3,x4,x5⟩:=HSS.out _ W5 HVW5.out
    go_wp2_with fail
    refine(HAD.out _ [41] W5 HVW5.out (by have h1:=HGC.out;have h2:=HLN.out;simp only[List.length_append,List.length_cons,List.length_nil];omega)).mono ?_
    rintro e W6 ⟨rfl,hg⟩
    have HVW6:=ad hg
    clear x0 x1 x2 x3 x4 x5 hg
    go_wp2_with fail
    go_end0
    exact⟨rfl,by rw[HE.out];simpa using HVW6.1,HFIN.out _ HVW6.2⟩
   |some o=>
    by_cases hm:most<o.pri
    ·rw[hO]at HOP
     unfold ik pH at HOP
     simp only[Option.getD_some,Option.isSome_some]at HOP
     have HOO:=ad hO
     have HE:Hid (F=acc++[40]++bq es way g o t.args++[41]):=ad (by rw[HF.out];unfold eW;rw[if_neg HQF.out,if_neg hnb,hO];simp only;rw[if_pos hm];simp)
     have c1:decide (most<o.pri)=true:=decide_eq_true hm
     have HM:=ad hm
     clear hO hnb hm
     obtain⟨x0,x1,x2,x3,x4,x5⟩:=HSS.out _ W HVW.out
     go_enter func66,ntmps66
     go_upto_region 1 with fail
     rw[<-hW,<-hq]
     clear hW hq
     go_wp2_with fail
     refine(HIS.out W HVW.out).mono ?_
     rintro e W1 ⟨rfl,hb1⟩
     have HVW1:=ad (HVW.later hb1)
     clear x0 x1 x2 x3 x4 x5 hb1
     obtain⟨x0,x1,x2,x3,x4,x5⟩:=HSS.out _ W1 HVW1.out
     go_wp2_with fail
     refine(HOP.out _ W1 HVW1.out).mono ?_
     rintro e W2 ⟨rfl,hb2⟩
     go_upto_region 9 with fail
     obtain⟨V,hV⟩:∃V,V=W2.alloc (.cells #[ae o.side,ae o.pri,af o.name,.bool o.left,.bool o.right] 218):=⟨_,rfl⟩
     have hbV:aE W1 V:=by rw[hV];exact hb2.alloc hb2.size _
     have hp0:V.heap[W2.heap.size]?=some (.cells #[ae o.side,ae o.pri,af o.name,.bool o.left,.bool o.right] 218 (0,0)):=by rw[hV];exact az
     have HVV:=ad (HVW1.later hbV)
     obtain⟨p,hp⟩:∃p,p=W2.heap.size:=⟨_,rfl⟩
     rw[<-hp]at hp0
     rw[<-hV,<-hp]
     have hpB:q<p:=by have:=hb2.size;have:=HVW1.2.size;omega
     have HP0:=ad hp0
     clear hV hp hb2 hbV hp0 x0 x1 x2 x3 x4 x5
     have HP1:Hid (∀a2 v,cw v B wb bt way a2/\Fr (bJ V B wb) V v->v.heap[p]?=some (.cells #[ae o.side,ae o.pri,af o.name,.bool o.left,.bool o.right] 218 (0,0))/\Hd W B wb bt way a2 v):=ad fun a2 v hv=>by
      have hne:p≠wb:=by have:=HVW.1.lt;have:=HVV.1;rintro rfl;obtain⟨A,c,k1,-⟩:=this.blk;rw[HP0.out]at k1;injection k1 with k1;injection k1 with k1;exact absurd (congrArg Array.size k1) (by simp)
      exact⟨bJ.keep hv.2 HP0.out (by decide) hne,hv.1,bJ.trans HVV.2 hv.2⟩
     obtain⟨x0,x1,x2,x3,x4,x5⟩:=HSS.out _ V HVV.out
     obtain⟨z0,z1,z2,z3,z4,-⟩:=bw HP0.out
     go_wp2_with fail
     refine(cM V B wb bt way acc [40] HVV.1 (Nat.le_trans HBU.out HVV.2.size) (by have:=HLN.out;first|omega|(simp only[List.length_cons,List.length_nil];omega)|(simp only[List.length_append,List.length_cons,List.length_nil];omega))).mono ?_
     rintro e W3 ⟨rfl,h1,h2⟩
     have h3:=HP1.out _ W3 ⟨h1,h2⟩
     have HVW3:=ad h3.2
     clear x0 x1 x2 x3 x4 x5 z0 z1 z2 z3 z4
     obtain⟨z0,z1,z2,z3,z4,-⟩:=bw h3.1
     clear h1 h2 h3
     obtain⟨x0,x1,x2,x3,x4,x5⟩:=HSS.out _ W3 HVW3.out
     go_wp2_with fail
     refine(HOE.out o _ W3 HOO.out HVW3.out (by simp)).mono ?_
     rintro e W4 ⟨rfl,hg⟩
     have HVW4:=ad hg
     clear x0 x1 x2 x3 x4 x5 z0 z1 z2 z3 z4 hg
     obtain⟨x0,x1,x2,x3,x4,x5⟩:=HSS.out _ W4 HVW4.out
     go_wp2_with fail
     refine(HAD.out _ [41] W4 HVW4.out (by have h1:=HGO.out o HOO.out;have h2:=HLN.out;simp only[List.length_append,List.length_cons,List.length_nil];omega)).mono ?_
     rintro e W5 ⟨rfl,hg⟩
     have HVW5:=ad hg
     clear x0 x1 x2 x3 x4 x5 hg
     go_wp2_with fail
     go_end0
     exact⟨rfl,by rw[HE.out];simpa using HVW5.1,HFIN.out _ HVW5.2⟩
    ·rw[hO]at HOP
     unfold ik pH at HOP
     simp only[Option.getD_some,Option.isSome_some]at HOP
     have HOO:=ad hO
     have HE:Hid (F=acc++bq es way g o t.args):=ad (by rw[HF.out];unfold eW;rw[if_neg HQF.out,if_neg hnb,hO];simp only;rw[if_neg hm])
     have c1:decide (most<o.pri)=false:=decide_eq_false hm
     have HM:=ad hm
     clear hO hnb hm
     obtain⟨x0,x1,x2,x3,x4,x5⟩:=HSS.out _ W HVW.out
     go_enter func66,ntmps66
     go_upto_region 1 with fail
     rw[<-hW,<-hq]
     clear hW hq
     go_wp2_with fail
     refine(HIS.out W HVW.out).mono ?_
     rintro e W1 ⟨rfl,hb1⟩
     have HVW1:=ad (HVW.later hb1)
     clear x0 x1 x2 x3 x4 x5 hb1
     obtain⟨x0,x1,x2,x3,x4,x5⟩:=HSS.out _ W1 HVW1.out
     go_wp2_with fail
     refine(HOP.out _ W1 HVW1.out).mono ?_
     rintro e W2 ⟨rfl,hb2⟩
     go_upto_region 9 with fail
     obtain⟨V,hV⟩:∃V,V=W2.alloc (.cells #[ae o.side,ae o.pri,af o.name,.bool o.left,.bool o.right] 218):=⟨_,rfl⟩
     have hbV:aE W1 V:=by rw[hV];exact hb2.alloc hb2.size _
     have hp0:V.heap[W2.heap.size]?=some (.cells #[ae o.side,ae o.pri,af o.name,.bool o.left,.bool o.right] 218 (0,0)):=by rw[hV];exact az
     have HVV:=ad (HVW1.later hbV)
     obtain⟨p,hp⟩:∃p,p=W2.heap.size:=⟨_,rfl⟩
     rw[<-hp]at hp0
     rw[<-hV,<-hp]
     have hpB:q<p:=by have:=hb2.size;have:=HVW1.2.size;omega
     have HP0:=ad hp0
     clear hV hp hb2 hbV hp0 x0 x1 x2 x3 x4 x5
     have HP1:Hid (∀a2 v,cw v B wb bt way a2/\Fr (bJ V B wb) V v->v.heap[p]?=some (.cells #[ae o.side,ae o.pri,af o.name,.bool o.left,.bool o.right] 218 (0,0))/\Hd W B wb bt way a2 v):=ad fun a2 v hv=>by
      have hne:p≠wb:=by have:=HVW.1.lt;have:=HVV.1;rintro rfl;obtain⟨A,c,k1,-⟩:=this.blk;rw[HP0.out]at k1;injection k1 with k1;injection k1 with k1;exact absurd (congrArg Array.size k1) (by simp)
      exact⟨bJ.keep hv.2 HP0.out (by decide) hne,hv.1,bJ.trans HVV.2 hv.2⟩
     obtain⟨x0,x1,x2,x3,x4,x5⟩:=HSS.out _ V HVV.out
     obtain⟨z0,z1,z2,z3,z4,-⟩:=bw HP0.out
     go_wp2_with fail
     refine(HOE.out o _ V HOO.out HVV.out (by omega)).mono ?_
     rintro e W4 ⟨rfl,hg⟩
     have HVW4:=ad hg
     clear x0 x1 x2 x3 x4 x5 z0 z1 z2 z3 z4 hg
     go_wp2_with fail
     go_end0
     exact⟨rfl,by rw[HE.out];simpa using HVW4.1,HFIN.out _ HVW4.2⟩
  by_cases hs:x.s=[123,125]
  ·by_cases hl:x.len=1
   ·have HE:Hid (F=acc++[123]++g (t.args.getD 0 aQ) 1200++[125]):=ad (by rw[HF.out];unfold eW;rw[if_neg HQF.out,if_pos ⟨hw2,HX.1.trans hs,HX.2.1.trans hl⟩];simp)
    have b1:(way !=2)=true:=bne_iff_ne.2 hw2
    have b1':(way==2)=false:=beq_eq_false_iff_ne.2 hw2
    have b2:(x.s==[123,125])=true:=by rw[hs];rfl
    have b3:((x.len:Int)==1)=true:=by rw[hl];rfl
    have HLL:Hid (t.args.length=1):=ad (HX.2.1.trans hl)
    obtain⟨b,off,y,hA,hbW,hty⟩:=HTM.out HLL.out
    have HTY:=ad hty
    rw[hA,hl]at HSS HIS hW
    rw[hA,hl]
    clear hw2 hs hl hA hty
    obtain⟨x0,x1,x2,x3,x4,x5⟩:=HSS.out _ W HVW.out
    go_enter func66,ntmps66
    go_upto_region 1 with fail
    rw[<-hW,<-hq]
    clear hW hq
    go_wp2_with fail
    refine(HIS.out W HVW.out).mono ?_
    rintro e W1 ⟨rfl,hb1⟩
    have HVW1:=ad (HVW.later hb1)
    clear x0 x1 x2 x3 x4 x5 hb1
    obtain⟨x0,x1,x2,x3,x4,x5⟩:=HSS.out _ W1 HVW1.out
    go_wp2_with fail
    refine(HAD.out _ [123] W1 HVW1.out (by have:=HLN.out;first|omega|(simp only[List.length_cons,List.length_nil];omega)|(simp only[List.length_append,List.length_cons,List.length_nil];omega))).mono ?_
    rintro e W2 ⟨rfl,hg⟩
    have HVW2:=ad hg
    clear x0 x1 x2 x3 x4 x5 hg
    obtain⟨x0,x1,x2,x3,x4,x5⟩:=HSS.out _ W2 HVW2.out
    obtain⟨⟨m0,m1,m2,m3⟩,-⟩:=HTY.out _ W2 HVW2.out
    go_wp2_with fail
    refine((HTY.out _ W2 HVW2.out).2 (by simp)).mono ?_
    rintro e W3 ⟨rfl,hg⟩
    have HVW3:=ad hg
    clear x0 x1 x2 x3 x4 x5 m0 m1 m2 m3 hg
    obtain⟨x0,x1,x2,x3,x4,x5⟩:=HSS.out _ W3 HVW3.out
    go_wp2_with fail
    refine(HAD.out _ [125] W3 HVW3.out (by have h1:=HG1.out HLL.out;have h2:=HLN.out;simp only[List.length_append,List.length_cons,List.length_nil];omega)).mono ?_
    rintro e W4 ⟨rfl,hg⟩
    have HVW4:=ad hg
    clear x0 x1 x2 x3 x4 x5 hg
    go_wp2_with fail
    (try simp only[Exit.inBlock,Exit.then])
    refine bodyPost_ret (v:=.tuple #[]) (by simp[results,results66,go_sem]) rfl ?_
    exact⟨rfl,by rw[HE.out];simpa using HVW4.1,HFIN.out _ HVW4.2⟩
   ·have b1:(way !=2)=true:=bne_iff_ne.2 hw2
    have b1':(way==2)=false:=beq_eq_false_iff_ne.2 hw2
    have b2:(x.s==[123,125])=true:=by rw[hs];rfl
    have b3:((x.len:Int)==1)=false:=beq_eq_false_iff_ne.2 (by omega)
    have hnb:¬(way≠2/\t.s=[123,125]/\t.args.length=1):=fun h=>hl (HX.2.1.symm.trans h.2.2)
    clear hw2 hs hl
    cases hO:dY es way t with
    |none=>
     rw[hO]at HOP
     have HE:Hid (F=acc++T++[40]++bG g t.args++[41]):=ad (by rw[HF.out];unfold eW;rw[if_neg HQF.out,if_neg hnb,hO,HX.2.2];simp)
     unfold ik Fb pH at HOP
     simp only[Option.getD_none,Option.isSome_none]at HOP
     clear hO hnb
     obtain⟨x0,x1,x2,x3,x4,x5⟩:=HSS.out _ W HVW.out
     go_enter func66,ntmps66
     go_upto_region 1 with fail
     rw[<-hW,<-hq]
     clear hW hq
     go_wp2_with fail
     refine(HIS.out W HVW.out).mono ?_
     rintro e W1 ⟨rfl,hb1⟩
     have HVW1:=ad (HVW.later hb1)
     clear x0 x1 x2 x3 x4 x5 hb1
     obtain⟨x0,x1,x2,x3,x4,x5⟩:=HSS.out _ W1 HVW1.out
     go_wp2_with fail
     refine(HOP.out _ W1 HVW1.out).mono ?_
     rintro e W2 ⟨rfl,hb2⟩
     go_upto_region 9 with fail
     obtain⟨V,hV⟩:∃V,V=W2.alloc (.cells #[ae 0,ae 0,ai,.bool false,.bool false] 218):=⟨_,rfl⟩
     have hbV:aE W1 V:=by rw[hV];exact hb2.alloc hb2.size _
     have hp0:V.heap[W2.heap.size]?=some (.cells #[ae 0,ae 0,ai,.bool false,.bool false] 218 (0,0)):=by rw[hV];exact az
     have HVV:=ad (HVW1.later hbV)
     obtain⟨p,hp⟩:∃p,p=W2.heap.size:=⟨_,rfl⟩
     rw[<-hp]at hp0
     rw[<-hV,<-hp]
     have hpB:q<p:=by have:=hb2.size;have:=HVW1.2.size;omega
     have HP0:=ad hp0
     clear hV hp hb2 hbV hp0 x0 x1 x2 x3 x4 x5
     obtain⟨x0,x1,x2,x3,x4,x5⟩:=HSS.out _ V HVV.out
     go_wp2_with fail
     have hbr:=Below.refl V.heap.size V
     have hbd:aE V V.drew:=(Below.refl V.heap.size V).drew
     have HSV:Hid (∀v,aE V v->v.cell? (ak wb 3)=some (.func (.func 27) #[ah wb] #[])/\v.cell? (ak wb 1)=some (ae way)/\v.cell? (ak q 0)=some (ae x.k)/\v.cell? (ak q 1)=some (ae x.n)/\v.cell? (ak q 2)=some (af x.s)/\v.cell? (ak q 3)=some (.slice x.A x.len x.cap)):=ad fun v hv=>HSS.out _ v (HVV.later hv)
     have HTV:Hid (∀v,aE V v->Calls prog 65 #[ah wb,af x.s] v fun e v'=>e=.returned (af T)/\aE V v'):=ad fun v hv=>HTX.out _ _ _ HVV.out hv
     have HAV:Hid (∀v,aE V v->Calls prog 27 #[ah wb,af T] v fun e v'=>e=am/\Hd W B wb bt way (acc++T) v'):=ad fun v hv=>HAD.out _ T v (HVV.later hv) (by have:=HLN.out;first|omega|(simp only[List.length_cons,List.length_nil];omega)|(simp only[List.length_append,List.length_cons,List.length_nil];omega))
     go_region_held3 (fun v=>v.cell? (ak wb 3)=some (.func (.func 27) #[ah wb] #[])/\v.cell? (ak wb 1)=some (ae way)/\v.cell? (ak q 0)=some (ae x.k)/\v.cell? (ak q 1)=some (ae x.n)/\v.cell? (ak q 2)=some (af x.s)/\v.cell? (ak q 3)=some (.slice x.A x.len x.cap))
      (first|(with_reducible exact HSV.out _ (by assumption))|(with_reducible exact HSS.out _ _ (by assumption)))
      (first|(go_at_call 65;with_reducible refine(HTV.out _ (by assumption)).mono ?_;rintro e v1 ⟨rfl,hb1⟩)|(go_at_call 27;with_reducible refine(HAV.out _ (by assumption)).mono ?_;rintro e W3 ⟨rfl,hg⟩))
     have HVW3:=ad hg
     clear x0 x1 x2 x3 x4 x5 hbr hbd HSV HTV HAV hg
     obtain⟨x0,x1,x2,x3,x4,x5⟩:=HSS.out _ W3 HVW3.out
     go_wp2_with fail
     refine(HAD.out _ [40] W3 HVW3.out (by have:=HLN.out;first|omega|(simp only[List.length_cons,List.length_nil];omega)|(simp only[List.length_append,List.length_cons,List.length_nil];omega))).mono ?_
     rintro e W4 ⟨rfl,hg⟩
     have HVW4:=ad hg
     clear x0 x1 x2 x3 x4 x5 hg
     obtain⟨x0,x1,x2,x3,x4,x5⟩:=HSS.out _ W4 HVW4.out
     go_wp2_with fail
     refine(HIT.out _ W4 HVW4.out (by have:=HLN.out;first|omega|(simp only[List.length_cons,List.length_nil];omega)|(simp only[List.length_append,List.length_cons,List.length_nil];omega))).mono ?_
     rintro e W5 ⟨rfl,hg⟩
     have HVW5:=ad hg
     clear x0 x1 x2 x3 x4 x5 hg
     obtain⟨x0,x1,x2,x3,x4,x5⟩:=HSS.out _ W5 HVW5.out
     go_wp2_with fail
     refine(HAD.out _ [41] W5 HVW5.out (by have h1:=HGC.out;have h2:=HLN.out;simp only[List.length_append,List.length_cons,List.length_nil];omega)).mono ?_
     rintro e W6 ⟨rfl,hg⟩
     have HVW6:=ad hg
     clear x0 x1 x2 x3 x4 x5 hg
     go_wp2_with fail
     go_end0
     exact⟨rfl,by rw[HE.out];simpa using HVW6.1,HFIN.out _ HVW6.2⟩
    |some o=>
     by_cases hm:most<o.pri
     ·rw[hO]at HOP
      unfold ik pH at HOP
      simp only[Option.getD_some,Option.isSome_some]at HOP
      have HOO:=ad hO
      have HE:Hid (F=acc++[40]++bq es way g o t.args++[41]):=ad (by rw[HF.out];unfold eW;rw[if_neg HQF.out,if_neg hnb,hO];simp only;rw[if_pos hm];simp)
      have c1:decide (most<o.pri)=true:=decide_eq_true hm
      have HM:=ad hm
      clear hO hnb hm
      obtain⟨x0,x1,x2,x3,x4,x5⟩:=HSS.out _ W HVW.out
      go_enter func66,ntmps66
      go_upto_region 1 with fail
      rw[<-hW,<-hq]
      clear hW hq
      go_wp2_with fail
      refine(HIS.out W HVW.out).mono ?_
      rintro e W1 ⟨rfl,hb1⟩
      have HVW1:=ad (HVW.later hb1)
      clear x0 x1 x2 x3 x4 x5 hb1
      obtain⟨x0,x1,x2,x3,x4,x5⟩:=HSS.out _ W1 HVW1.out
      go_wp2_with fail
      refine(HOP.out _ W1 HVW1.out).mono ?_
      rintro e W2 ⟨rfl,hb2⟩
      go_upto_region 9 with fail
      obtain⟨V,hV⟩:∃V,V=W2.alloc (.cells #[ae o.side,ae o.pri,af o.name,.bool o.left,.bool o.right] 218):=⟨_,rfl⟩
      have hbV:aE W1 V:=by rw[hV];exact hb2.alloc hb2.size _
      have hp0:V.heap[W2.heap.size]?=some (.cells #[ae o.side,ae o.pri,af o.name,.bool o.left,.bool o.right] 218 (0,0)):=by rw[hV];exact az
      have HVV:=ad (HVW1.later hbV)
      obtain⟨p,hp⟩:∃p,p=W2.heap.size:=⟨_,rfl⟩
      rw[<-hp]at hp0
      rw[<-hV,<-hp]
      have hpB:q<p:=by have:=hb2.size;have:=HVW1.2.size;omega
      have HP0:=ad hp0
      clear hV hp hb2 hbV hp0 x0 x1 x2 x3 x4 x5
      have HP1:Hid (∀a2 v,cw v B wb bt way a2/\Fr (bJ V B wb) V v->v.heap[p]?=some (.cells #[ae o.side,ae o.pri,af o.name,.bool o.left,.bool o.right] 218 (0,0))/\Hd W B wb bt way a2 v):=ad fun a2 v hv=>by
       have hne:p≠wb:=by have:=HVW.1.lt;have:=HVV.1;rintro rfl;obtain⟨A,c,k1,-⟩:=this.blk;rw[HP0.out]at k1;injection k1 with k1;injection k1 with k1;exact absurd (congrArg Array.size k1) (by simp)
       exact⟨bJ.keep hv.2 HP0.out (by decide) hne,hv.1,bJ.trans HVV.2 hv.2⟩
      obtain⟨x0,x1,x2,x3,x4,x5⟩:=HSS.out _ V HVV.out
      obtain⟨z0,z1,z2,z3,z4,-⟩:=bw HP0.out
      go_wp2_with fail
      refine(cM V B wb bt way acc [40] HVV.1 (Nat.le_trans HBU.out HVV.2.size) (by have:=HLN.out;first|omega|(simp only[List.length_cons,List.length_nil];omega)|(simp only[List.length_append,List.length_cons,List.length_nil];omega))).mono ?_
      rintro e W3 ⟨rfl,h1,h2⟩
      have h3:=HP1.out _ W3 ⟨h1,h2⟩
      have HVW3:=ad h3.2
      clear x0 x1 x2 x3 x4 x5 z0 z1 z2 z3 z4
      obtain⟨z0,z1,z2,z3,z4,-⟩:=bw h3.1
      clear h1 h2 h3
      obtain⟨x0,x1,x2,x3,x4,x5⟩:=HSS.out _ W3 HVW3.out
      go_wp2_with fail
      refine(HOE.out o _ W3 HOO.out HVW3.out (by simp)).mono ?_
      rintro e W4 ⟨rfl,hg⟩
      have HVW4:=ad hg
      clear x0 x1 x2 x3 x4 x5 z0 z1 z2 z3 z4 hg
      obtain⟨x0,x1,x2,x3,x4,x5⟩:=HSS.out _ W4 HVW4.out
      go_wp2_with fail
      refine(HAD.out _ [41] W4 HVW4.out (by have h1:=HGO.out o HOO.out;have h2:=HLN.out;simp only[List.length_append,List.length_cons,List.length_nil];omega)).mono ?_
      rintro e W5 ⟨rfl,hg⟩
      have HVW5:=ad hg
      clear x0 x1 x2 x3 x4 x5 hg
      go_wp2_with fail
      go_end0
      exact⟨rfl,by rw[HE.out];simpa using HVW5.1,HFIN.out _ HVW5.2⟩
     ·rw[hO]at HOP
      unfold ik pH at HOP
      simp only[Option.getD_some,Option.isSome_some]at HOP
      have HOO:=ad hO
      have HE:Hid (F=acc++bq es way g o t.args):=ad (by rw[HF.out];unfold eW;rw[if_neg HQF.out,if_neg hnb,hO];simp only;rw[if_neg hm])
      have c1:decide (most<o.pri)=false:=decide_eq_false hm
      have HM:=ad hm
      clear hO hnb hm
      obtain⟨x0,x1,x2,x3,x4,x5⟩:=HSS.out _ W HVW.out
      go_enter func66,ntmps66
      go_upto_region 1 with fail
      rw[<-hW,<-hq]
      clear hW hq
      go_wp2_with fail
      refine(HIS.out W HVW.out).mono ?_
      rintro e W1 ⟨rfl,hb1⟩
      have HVW1:=ad (HVW.later hb1)
      clear x0 x1 x2 x3 x4 x5 hb1
      obtain⟨x0,x1,x2,x3,x4,x5⟩:=HSS.out _ W1 HVW1.out
      go_wp2_with fail
      refine(HOP.out _ W1 HVW1.out).mono ?_
      rintro e W2 ⟨rfl,hb2⟩
      go_upto_region 9 with fail
      obtain⟨V,hV⟩:∃V,V=W2.alloc (.cells #[ae o.side,ae o.pri,af o.name,.bool o.left,.bool o.right] 218):=⟨_,rfl⟩
      have hbV:aE W1 V:=by rw[hV];exact hb2.alloc hb2.size _
      have hp0:V.heap[W2.heap.size]?=some (.cells #[ae o.side,ae o.pri,af o.name,.bool o.left,.bool o.right] 218 (0,0)):=by rw[hV];exact az
      have HVV:=ad (HVW1.later hbV)
      obtain⟨p,hp⟩:∃p,p=W2.heap.size:=⟨_,rfl⟩
      rw[<-hp]at hp0
      rw[<-hV,<-hp]
      have hpB:q<p:=by have:=hb2.size;have:=HVW1.2.size;omega
      have HP0:=ad hp0
      clear hV hp hb2 hbV hp0 x0 x1 x2 x3 x4 x5
      have HP1:Hid (∀a2 v,cw v B wb bt way a2/\Fr (bJ V B wb) V v->v.heap[p]?=some (.cells #[ae o.side,ae o.pri,af o.name,.bool o.left,.bool o.right] 218 (0,0))/\Hd W B wb bt way a2 v):=ad fun a2 v hv=>by
       have hne:p≠wb:=by have:=HVW.1.lt;have:=HVV.1;rintro rfl;obtain⟨A,c,k1,-⟩:=this.blk;rw[HP0.out]at k1;injection k1 with k1;injection k1 with k1;exact absurd (congrArg Array.size k1) (by simp)
       exact⟨bJ.keep hv.2 HP0.out (by decide) hne,hv.1,bJ.trans HVV.2 hv.2⟩
      obtain⟨x0,x1,x2,x3,x4,x5⟩:=HSS.out _ V HVV.out
      obtain⟨z0,z1,z2,z3,z4,-⟩:=bw HP0.out
      go_wp2_with fail
      refine(HOE.out o _ V HOO.out HVV.out (by omega)).mono ?_
      rintro e W4 ⟨rfl,hg⟩
      have HVW4:=ad hg
      clear x0 x1 x2 x3 x4 x5 z0 z1 z2 z3 z4 hg
      go_wp2_with fail
      go_end0
      exact⟨rfl,by rw[HE.out];simpa using HVW4.1,HFIN.out _ HVW4.2⟩
  ·have b1:(way !=2)=true:=bne_iff_ne.2 hw2
   have b1':(way==2)=false:=beq_eq_false_iff_ne.2 hw2
   have b2:(x.s==[123,125])=false:=beq_eq_false_iff_ne.2 hs
   have hnb:¬(way≠2/\t.s=[123,125]/\t.args.length=1):=fun h=>hs (HX.1.symm.trans h.2.1)
   clear hw2 hs
   cases hO:dY es way t with
   |none=>
    rw[hO]at HOP
    have HE:Hid (F=acc++T++[40]++bG g t.args++[41]):=ad (by rw[HF.out];unfold eW;rw[if_neg HQF.out,if_neg hnb,hO,HX.2.2];simp)
    unfold ik Fb pH at HOP
    simp only[Option.getD_none,Option.isSome_none]at HOP
    clear hO hnb
    obtain⟨x0,x1,x2,x3,x4,x5⟩:=HSS.out _ W HVW.out
    go_enter func66,ntmps66
    go_upto_region 1 with fail
    rw[<-hW,<-hq]
    clear hW hq
    go_wp2_with fail
    refine(HIS.out W HVW.out).mono ?_
    rintro e W1 ⟨rfl,hb1⟩
    have HVW1:=ad (HVW.later hb1)
    clear x0 x1 x2 x3 x4 x5 hb1
    obtain⟨x0,x1,x2,x3,x4,x5⟩:=HSS.out _ W1 HVW1.out
    go_wp2_with fail
    refine(HOP.out _ W1 HVW1.out).mono ?_
    rintro e W2 ⟨rfl,hb2⟩
    go_upto_region 9 with fail
    obtain⟨V,hV⟩:∃V,V=W2.alloc (.cells #[ae 0,ae 0,ai,.bool false,.bool false] 218):=⟨_,rfl⟩
    have hbV:aE W1 V:=by rw[hV];exact hb2.alloc hb2.size _
    have hp0:V.heap[W2.heap.size]?=some (.cells #[ae 0,ae 0,ai,.bool false,.bool false] 218 (0,0)):=by rw[hV];exact az
    have HVV:=ad (HVW1.later hbV)
    obtain⟨p,hp⟩:∃p,p=W2.heap.size:=⟨_,rfl⟩
    rw[<-hp]at hp0
    rw[<-hV,<-hp]
    have hpB:q<p:=by have:=hb2.size;have:=HVW1.2.size;omega
    have HP0:=ad hp0
    clear hV hp hb2 hbV hp0 x0 x1 x2 x3 x4 x5
    obtain⟨x0,x1,x2,x3,x4,x5⟩:=HSS.out _ V HVV.out
    go_wp2_with fail
    have hbr:=Below.refl V.heap.size V
    have hbd:aE V V.drew:=(Below.refl V.heap.size V).drew
    have HSV:Hid (∀v,aE V v->v.cell? (ak wb 3)=some (.func (.func 27) #[ah wb] #[])/\v.cell? (ak wb 1)=some (ae way)/\v.cell? (ak q 0)=some (ae x.k)/\v.cell? (ak q 1)=some (ae x.n)/\v.cell? (ak q 2)=some (af x.s)/\v.cell? (ak q 3)=some (.slice x.A x.len x.cap)):=ad fun v hv=>HSS.out _ v (HVV.later hv)
    have HTV:Hid (∀v,aE V v->Calls prog 65 #[ah wb,af x.s] v fun e v'=>e=.returned (af T)/\aE V v'):=ad fun v hv=>HTX.out _ _ _ HVV.out hv
    have HAV:Hid (∀v,aE V v->Calls prog 27 #[ah wb,af T] v fun e v'=>e=am/\Hd W B wb bt way (acc++T) v'):=ad fun v hv=>HAD.out _ T v (HVV.later hv) (by have:=HLN.out;first|omega|(simp only[List.length_cons,List.length_nil];omega)|(simp only[List.length_append,List.length_cons,List.length_nil];omega))
    go_region_held3 (fun v=>v.cell? (ak wb 3)=some (.func (.func 27) #[ah wb] #[])/\v.cell? (ak wb 1)=some (ae way)/\v.cell? (ak q 0)=some (ae x.k)/\v.cell? (ak q 1)=some (ae x.n)/\v.cell? (ak q 2)=some (af x.s)/\v.cell? (ak q 3)=some (.slice x.A x.len x.cap))
     (first|(with_reducible exact HSV.out _ (by assumption))|(with_reducible exact HSS.out _ _ (by assumption)))
     (first|(go_at_call 65;with_reducible refine(HTV.out _ (by assumption)).mono ?_;rintro e v1 ⟨rfl,hb1⟩)|(go_at_call 27;with_reducible refine(HAV.out _ (by assumption)).mono ?_;rintro e W3 ⟨rfl,hg⟩))
    have HVW3:=ad hg
    clear x0 x1 x2 x3 x4 x5 hbr hbd HSV HTV HAV hg
    obtain⟨x0,x1,x2,x3,x4,x5⟩:=HSS.out _ W3 HVW3.out
    go_wp2_with fail
    refine(HAD.out _ [40] W3 HVW3.out (by have:=HLN.out;first|omega|(simp only[List.length_cons,List.length_nil];omega)|(simp only[List.length_append,List.length_cons,List.length_nil];omega))).mono ?_
    rintro e W4 ⟨rfl,hg⟩
    have HVW4:=ad hg
    clear x0 x1 x2 x3 x4 x5 hg
    obtain⟨x0,x1,x2,x3,x4,x5⟩:=HSS.out _ W4 HVW4.out
    go_wp2_with fail
    refine(HIT.out _ W4 HVW4.out (by have:=HLN.out;first|omega|(simp only[List.length_cons,List.length_nil];omega)|(simp only[List.length_append,List.length_cons,List.length_nil];omega))).mono ?_
    rintro e W5 ⟨rfl,hg⟩
    have HVW5:=ad hg
    clear x0 x1 x2 x3 x4 x5 hg
    obtain⟨x0,x1,x2,x3,x4,x5⟩:=HSS.out _ W5 HVW5.out
    go_wp2_with fail
    refine(HAD.out _ [41] W5 HVW5.out (by have h1:=HGC.out;have h2:=HLN.out;simp only[List.length_append,List.length_cons,List.length_nil];omega)).mono ?_
    rintro e W6 ⟨rfl,hg⟩
    have HVW6:=ad hg
    clear x0 x1 x2 x3 x4 x5 hg
    go_wp2_with fail
    go_end0
    exact⟨rfl,by rw[HE.out];simpa using HVW6.1,HFIN.out _ HVW6.2⟩
   |some o=>
    by_cases hm:most<o.pri
    ·rw[hO]at HOP
     unfold ik pH at HOP
     simp only[Option.getD_some,Option.isSome_some]at HOP
     have HOO:=ad hO
     have HE:Hid (F=acc++[40]++bq es way g o t.args++[41]):=ad (by rw[HF.out];unfold eW;rw[if_neg HQF.out,if_neg hnb,hO];simp only;rw[if_pos hm];simp)
     have c1:decide (most<o.pri)=true:=decide_eq_true hm
     have HM:=ad hm
     clear hO hnb hm
     obtain⟨x0,x1,x2,x3,x4,x5⟩:=HSS.out _ W HVW.out
     go_enter func66,ntmps66
     go_upto_region 1 with fail
     rw[<-hW,<-hq]
     clear hW hq
     go_wp2_with fail
     refine(HIS.out W HVW.out).mono ?_
     rintro e W1 ⟨rfl,hb1⟩
     have HVW1:=ad (HVW.later hb1)
     clear x0 x1 x2 x3 x4 x5 hb1
     obtain⟨x0,x1,x2,x3,x4,x5⟩:=HSS.out _ W1 HVW1.out
     go_wp2_with fail
     refine(HOP.out _ W1 HVW1.out).mono ?_
     rintro e W2 ⟨rfl,hb2⟩
     go_upto_region 9 with fail
     obtain⟨V,hV⟩:∃V,V=W2.alloc (.cells #[ae o.side,ae o.pri,af o.name,.bool o.left,.bool o.right] 218):=⟨_,rfl⟩
     have hbV:aE W1 V:=by rw[hV];exact hb2.alloc hb2.size _
     have hp0:V.heap[W2.heap.size]?=some (.cells #[ae o.side,ae o.pri,af o.name,.bool o.left,.bool o.right] 218 (0,0)):=by rw[hV];exact az
     have HVV:=ad (HVW1.later hbV)
     obtain⟨p,hp⟩:∃p,p=W2.heap.size:=⟨_,rfl⟩
     rw[<-hp]at hp0
     rw[<-hV,<-hp]
     have hpB:q<p:=by have:=hb2.size;have:=HVW1.2.size;omega
     have HP0:=ad hp0
     clear hV hp hb2 hbV hp0 x0 x1 x2 x3 x4 x5
     have HP1:Hid (∀a2 v,cw v B wb bt way a2/\Fr (bJ V B wb) V v->v.heap[p]?=some (.cells #[ae o.side,ae o.pri,af o.name,.bool o.left,.bool o.right] 218 (0,0))/\Hd W B wb bt way a2 v):=ad fun a2 v hv=>by
      have hne:p≠wb:=by have:=HVW.1.lt;have:=HVV.1;rintro rfl;obtain⟨A,c,k1,-⟩:=this.blk;rw[HP0.out]at k1;injection k1 with k1;injection k1 with k1;exact absurd (congrArg Array.size k1) (by simp)
      exact⟨bJ.keep hv.2 HP0.out (by decide) hne,hv.1,bJ.trans HVV.2 hv.2⟩
     obtain⟨x0,x1,x2,x3,x4,x5⟩:=HSS.out _ V HVV.out
     obtain⟨z0,z1,z2,z3,z4,-⟩:=bw HP0.out
     go_wp2_with fail
     refine(cM V B wb bt way acc [40] HVV.1 (Nat.le_trans HBU.out HVV.2.size) (by have:=HLN.out;first|omega|(simp only[List.length_cons,List.length_nil];omega)|(simp only[List.length_append,List.length_cons,List.length_nil];omega))).mono ?_
     rintro e W3 ⟨rfl,h1,h2⟩
     have h3:=HP1.out _ W3 ⟨h1,h2⟩
     have HVW3:=ad h3.2
     clear x0 x1 x2 x3 x4 x5 z0 z1 z2 z3 z4
     obtain⟨z0,z1,z2,z3,z4,-⟩:=bw h3.1
     clear h1 h2 h3
     obtain⟨x0,x1,x2,x3,x4,x5⟩:=HSS.out _ W3 HVW3.out
     go_wp2_with fail
     refine(HOE.out o _ W3 HOO.out HVW3.out (by simp)).mono ?_
     rintro e W4 ⟨rfl,hg⟩
     have HVW4:=ad hg
     clear x0 x1 x2 x3 x4 x5 z0 z1 z2 z3 z4 hg
     obtain⟨x0,x1,x2,x3,x4,x5⟩:=HSS.out _ W4 HVW4.out
     go_wp2_with fail
     refine(HAD.out _ [41] W4 HVW4.out (by have h1:=HGO.out o HOO.out;have h2:=HLN.out;simp only[List.length_append,List.length_cons,List.length_nil];omega)).mono ?_
     rintro e W5 ⟨rfl,hg⟩
     have HVW5:=ad hg
     clear x0 x1 x2 x3 x4 x5 hg
     go_wp2_with fail
     go_end0
     exact⟨rfl,by rw[HE.out];simpa using HVW5.1,HFIN.out _ HVW5.2⟩
    ·rw[hO]at HOP
     unfold ik pH at HOP
     simp only[Option.getD_some,Option.isSome_some]at HOP
     have HOO:=ad hO
     have HE:Hid (F=acc++bq es way g o t.args):=ad (by rw[HF.out];unfold eW;rw[if_neg HQF.out,if_neg hnb,hO];simp only;rw[if_neg hm])
     have c1:decide (most<o.pri)=false:=decide_eq_false hm
     have HM:=ad hm
     clear hO hnb hm
     obtain⟨x0,x1,x2,x3,x4,x5⟩:=HSS.out _ W HVW.out
     go_enter func66,ntmps66
     go_upto_region 1 with fail
     rw[<-hW,<-hq]
     clear hW hq
     go_wp2_with fail
     refine(HIS.out W HVW.out).mono ?_
     rintro e W1 ⟨rfl,hb1⟩
     have HVW1:=ad (HVW.later hb1)
     clear x0 x1 x2 x3 x4 x5 hb1
     obtain⟨x0,x1,x2,x3,x4,x5⟩:=HSS.out _ W1 HVW1.out
     go_wp2_with fail
     refine(HOP.out _ W1 HVW1.out).mono ?_
     rintro e W2 ⟨rfl,hb2⟩
     go_upto_region 9 with fail
     obtain⟨V,hV⟩:∃V,V=W2.alloc (.cells #[ae o.side,ae o.pri,af o.name,.bool o.left,.bool o.right] 218):=⟨_,rfl⟩
     have hbV:aE W1 V:=by rw[hV];exact hb2.alloc hb2.size _
     have hp0:V.heap[W2.heap.size]?=some (.cells #[ae o.side,ae o.pri,af o.name,.bool o.left,.bool o.right] 218 (0,0)):=by rw[hV];exact az
     have HVV:=ad (HVW1.later hbV)
     obtain⟨p,hp⟩:∃p,p=W2.heap.size:=⟨_,rfl⟩
     rw[<-hp]at hp0
     rw[<-hV,<-hp]
     have hpB:q<p:=by have:=hb2.size;have:=HVW1.2.size;omega
     have HP0:=ad hp0
     clear hV hp hb2 hbV hp0 x0 x1 x2 x3 x4 x5
     have HP1:Hid (∀a2 v,cw v B wb bt way a2/\Fr (bJ V B wb) V v->v.heap[p]?=some (.cells #[ae o.side,ae o.pri,af o.name,.bool o.left,.bool o.right] 218 (0,0))/\Hd W B wb bt way a2 v):=ad fun a2 v hv=>by
      have hne:p≠wb:=by have:=HVW.1.lt;have:=HVV.1;rintro rfl;obtain⟨A,c,k1,-⟩:=this.blk;rw[HP0.out]at k1;injection k1 with k1;injection k1 with k1;exact absurd (congrArg Array.size k1) (by simp)
      exact⟨bJ.keep hv.2 HP0.out (by decide) hne,hv.1,bJ.trans HVV.2 hv.2⟩
     obtain⟨x0,x1,x2,x3,x4,x5⟩:=HSS.out _ V HVV.out
     obtain⟨z0,z1,z2,z3,z4,-⟩:=bw HP0.out
     go_wp2_with fail
     refine(HOE.out o _ V HOO.out HVV.out (by omega)).mono ?_
     rintro e W4 ⟨rfl,hg⟩
     have HVW4:=ad hg
     clear x0 x1 x2 x3 x4 x5 z0 z1 z2 z3 z4 hg
     go_wp2_with fail
     go_end0
     exact⟨rfl,by rw[HE.out];simpa using HVW4.1,HFIN.out _ HVW4.2⟩
end
end Go.Proofs.YtigeofkllldilaaGreatDoor
