import Derived.Test.YtigeofkllldilaaGreatDoorJM06
import Derived.Test.YtigeofkllldilaaGreatDoorJM15
import Derived.Test.YtigeofkllldilaaGreatDoorJM21
set_option maxHeartbeats 32000000
set_option maxRecDepth 100000
set_option linter.unusedSectionVars false
open Go.Proofs.Tryz
namespace Go.Proofs.YtigeofkllldilaaGreatDoor
section
open Go.RowKit Go.Maps
variable[Base]
section
variable {rb sb room:Nat} {u u':World} {safe:Bool} {w:Nat} {wv cv bv:Value} {ps:List (Nat×Nat)} {xs:List ec} {cs:List Sc} {ys:List (Nat×Int)}
theorem DO (h:cU rb sb u safe w wv ps) (hs:aL sb room u cv bv xs cs ys) (a b:Nat) (ha:a<cs.length) (hb:b<cs.length) (hm:ys.length+1<=100000000) (hp:ps.length+255<=100000000):
 Calls prog 381 #[ah rb,.agg #[ae (a:Nat),ae (b:Nat)],.func (.func 379) #[ah rb] #[]] u fun e u'=>eJ rb sb room u safe w ps cs ys a b e u':=by
 obtain⟨ra,hra⟩:=hs.flw a ha
 obtain⟨rr,hrr⟩:=hs.flw b hb
 obtain⟨U,hU⟩:∃U,U=u.alloc (.cells #[ae (a:Nat),ae (b:Nat)] 509):=⟨_,rfl⟩
 have hbU:aE u U:=by rw[hU];exact aB
 have hz:U.heap[u.heap.size]?=some (.cells #[ae (a:Nat),ae (b:Nat)] 509 (0,0)):=by rw[hU];exact az
 have z0:U.cell? (ak u.heap.size 0)=some (ae (a:Nat)):=by rw[cell_of_row U u.heap.size 0 _ _ (0,0) hz];rfl
 have z1:U.cell? (ak u.heap.size 1)=some (ae (b:Nat)):=by rw[cell_of_row U u.heap.size 1 _ _ (0,0) hz];rfl
 have HU:=ad (h.later hbU)
 have HS:=ad (hs.later hbU)
 obtain⟨p0,-,-,-,-⟩:=(h.later hbU).cells
 have HF0:Hid (TF oD u U):=ad (by rw[hU];exact(TF.refl _ _).alloc _)
 have HR:=ad (aD hra hrr)
 have HSS:=ad (aD p0 (aD z0 z1))
 have hul:u.heap.size<U.heap.size:=(ap hz).1
 have hlr:rb<U.heap.size:=(h.later hbU).lt
 refine aa fun P hP=>?_
 have HP:=ad hP
 clear hP h hs hra hrr hbU hz p0 z0 z1
 go_enter func381,ntmps381
 go_upto_region 1 with fail
 rw[<-hU]
 clear hU
 go_region_held3 (fun v=>v.cell? (ak rb 0)=some (ah sb)/\v.cell? (ak u.heap.size 0)=some (ae (a:Nat))/\v.cell? (ak u.heap.size 1)=some (ae (b:Nat)))
  (first|(with_reducible exact HSS.out)|exact HSS.out)
  (first|(go_at_call 199;with_reducible refine(ii (HS.out.later aA.drew) HR.out.1).mono ?_;rintro e w1 ⟨rfl,rfl⟩)|(go_at_call 199;with_reducible refine(ii (HS.out.later aA.drew) HR.out.2).mono ?_;rintro e w1 ⟨rfl,rfl⟩))
 have HU1:Hid (cU rb sb U.drew safe w wv ps/\aL sb room U.drew cv bv xs cs ys/\TF oD u U.drew):=ad ⟨HU.later aA.drew,HS.later aA.drew,HF0.drew⟩
 clear HU HS HF0 HSS hul hlr
 obtain⟨V,hV⟩:∃V,V=U.drew:=⟨_,rfl⟩
 rw[<-hV]at HU1⊢
 clear hV
 by_cases hrv:ra=rr
 ·subst hrv
  have hq:((ra:Int)==(ra:Int))=true:=beq_self_eq_true _
  go_wp2_with fail
  show P _ _
  rw[HP.out]
  exact eJ.same HU1.2.2 HR.1 HR.2 HU1.1 HU1.2.1
 have hq:((ra:Int)==(rr:Int))=false:=beq_eq_false_iff_ne.2 (by omega)
 obtain⟨x,hx,-⟩:=HR.1.free
 obtain⟨y,hy,-⟩:=HR.2.free
 have hxn:=HU1.2.1.ar ra x hx
 have hyn:=HU1.2.1.ar rr y hy
 obtain⟨p0,-,-,-,-⟩:=HU1.1.cells
 have hlr:rb<V.heap.size:=HU1.1.lt
 have HX:=ad (aD hx hy)
 clear hx hy
 go_wp2_with fail
 clear hq
 refine(fo HU1.2.1 HR.1.self HX.1 (by omega)).mono ?_
 rintro e W1 ⟨A1,c1,rfl,ha1,-,hb1⟩
 obtain⟨X,hX⟩:∃X,X=di ra x:=⟨_,rfl⟩
 rw[<-hX]
 obtain⟨W2,hW2⟩:∃W,W=W1.alloc (.cells #[ae X.k,ae X.n,af X.s,.slice X.A X.len X.cap] 27):=⟨_,rfl⟩
 have hb2:aE W1 W2:=by rw[hW2];exact aB
 have hbv:aE V W2:=hb1.trans (hb2.mono hb1.size)
 have hz1:W2.heap[W1.heap.size]?=some (.cells #[ae X.k,ae X.n,af X.s,.slice X.A X.len X.cap] 27 (0,0)):=by rw[hW2];exact az
 have HU2:=ad (aD (HU1.1.later hbv) (aD (HU1.2.1.later hbv) (aD (HU1.2.2.later hbv) (aD (ha1.later hb2) hz1))))
 have hl2:rb<W2.heap.size:=(HU1.1.later hbv).lt
 obtain⟨p0,-,-,-,-⟩:=(HU1.1.later hbv).cells
 have HXX:=ad hX
 clear hX ha1 hb1 hb2 hbv hz1
 unfold aU
 go_upto_region 5 with fail
 rw[<-hW2]
 clear hW2
 obtain⟨T1,hT1⟩:∃T,T=W1.heap.size:=⟨_,rfl⟩
 rw[<-hT1]at HU2⊢
 clear hT1
 go_wp2_with fail
 refine(fo HU2.2.1 HR.2.self HX.2 (by omega)).mono ?_
 rintro e W3 ⟨A3,c3,rfl,ha3,-,hb3⟩
 obtain⟨Y,hY⟩:∃Y,Y=di rr y:=⟨_,rfl⟩
 rw[<-hY]
 obtain⟨W4,hW4⟩:∃W,W=W3.alloc (.cells #[ae Y.k,ae Y.n,af Y.s,.slice Y.A Y.len Y.cap] 27):=⟨_,rfl⟩
 have hb4:aE W3 W4:=by rw[hW4];exact aB
 have hbv:aE W2 W4:=hb3.trans (hb4.mono hb3.size)
 have hz3:W4.heap[W3.heap.size]?=some (.cells #[ae Y.k,ae Y.n,af Y.s,.slice Y.A Y.len Y.cap] 27 (0,0)):=by rw[hW4];exact az
 have hz1:=(hbv.block T1 (ap HU2.2.2.2.2).1).trans HU2.2.2.2.2
 have HU4:=ad (aD (HU2.1.later hbv) (aD (HU2.2.1.later hbv) (aD (HU2.2.2.1.later hbv) (aD (HU2.2.2.2.1.later hbv) (ha3.later hb4)))))
 have hl4:rb<W4.heap.size:=(HU2.1.later hbv).lt
 obtain⟨p0,-,-,-,-⟩:=(HU2.1.later hbv).cells
 obtain⟨T3,hT3⟩:∃T,T=W3.heap.size:=⟨_,rfl⟩
 rw[<-hT3]at hz3
 have HYY:=ad hY
 obtain⟨x0,x1,x2,-,xf⟩:=aH hz1
 obtain⟨y0,y1,y2,-,yf⟩:=aH hz3
 have hlx:T1<W4.heap.size:=(ap hz1).1
 have hly:T3<W4.heap.size:=(ap hz3).1
 clear hY ha3 hb3 hb4 hbv hz1 hz3 HU1 HU2 hl2 hlr
 unfold aU
 go_upto_region 6 with fail
 rw[<-hW4,<-hT3]
 clear hW4 hT3
 have HK:Hid (X.k=x.k/\Y.k=y.k/\(x.k≠1->X.n=x.n/\X.s=x.s)/\(y.k≠1->Y.n=y.n/\Y.s=y.s)):=ad (by
  rw[HXX.out,HYY.out]
  exact⟨Dk ..,Dk ..,fun h=>Bw _ _ h,fun h=>Bw _ _ h⟩)
 clear HXX HYY
 obtain⟨Xk,Xn,Xs,XA,Xl,Xc⟩:=X
 obtain⟨Yk,Yn,Ys,YA,Yl,Yc⟩:=Y
 simp only at HK x0 x1 x2 y0 y1 y2
 by_cases hk1:Xk=1
 ·have b1:(Xk==1)=true:=by rw[hk1];rfl
  have HK1:=ad (HK.1.symm.trans hk1)
  clear hk1
  go_wp2_with fail
  refine(vg HU4.1 HU4.2.1 HR.1.self HR.2.self hrv HX.1 HK1.out hm Yk).mono ?_
  intro e W5 h5
  have HQ:Hid (P e W5):=ad (by
   rw[HP.out]
   exact eJ.bind HU4.2.2.1 HR.1 HR.2 hrv (.inl ⟨rfl,rfl⟩) HX.1 HK1.out h5)
  rcases h5 with⟨z,w',-,-,rfl,-⟩|⟨w',bv',xs',tp,-,-,rfl,-⟩
  ·go_wp2_with fail
   exact HQ.out
  ·go_wp2_with fail
   exact HQ.out
 have b1:(Xk==1)=false:=beq_eq_false_iff_ne.2 hk1
 by_cases hk2:Yk=1
 ·have b2:(Yk==1)=true:=by rw[hk2];rfl
  have HK1:=ad (HK.2.1.symm.trans hk2)
  clear hk1 hk2
  go_wp2_with fail
  refine(vg HU4.1 HU4.2.1 HR.2.self HR.1.self (Ne.symm hrv) HX.2 HK1.out hm Xk).mono ?_
  intro e W5 h5
  have HQ:Hid (P e W5):=ad (by
   rw[HP.out]
   exact eJ.bind HU4.2.2.1 HR.1 HR.2 hrv (.inr ⟨rfl,rfl⟩) HX.2 HK1.out h5)
  rcases h5 with⟨z,w',-,-,rfl,-⟩|⟨w',bv',xs',tp,-,-,rfl,-⟩
  ·go_wp2_with fail
   exact HQ.out
  ·go_wp2_with fail
   exact HQ.out
 have b2:(Yk==1)=false:=beq_eq_false_iff_ne.2 hk2
 have HKN:Hid (x.k≠1/\y.k≠1/\Xk=x.k/\Yk=y.k/\Xn=x.n/\Yn=y.n/\Xs=x.s/\Ys=y.s):=ad (by
  have q1:x.k≠1:=by rw[<-HK.1];exact hk1
  have q2:y.k≠1:=by rw[<-HK.2.1];exact hk2
  exact⟨q1,q2,HK.1,HK.2.1,(HK.2.2.1 q1).1,(HK.2.2.2 q2).1,(HK.2.2.1 q1).2,(HK.2.2.2 q2).2⟩)
 clear hk1 hk2 HK
 obtain⟨n1,hn1⟩:∃n,n=x.args.length:=⟨_,rfl⟩
 obtain⟨n2,hn2⟩:∃n,n=y.args.length:=⟨_,rfl⟩
 rw[<-hn1]at hxn⊢
 rw[<-hn2]at hyn⊢
 have HN:=ad (aD hn1 hn2)
 clear hn1 hn2
 have HCL:Hid (¬(Xk=Yk/\Xn=Yn/\Xs=Ys/\n1=n2)->P (.returned (.tuple #[.bool false,ae 0])) W4):=ad fun hc=>by
  rw[HP.out]
  refine eJ.clash HU4.2.2.1 HR.1 HR.2 HX.1 HX.2 HKN.1 HKN.2.1 (fun e=>hc ?_) HU4.1 HU4.2.1
  obtain⟨-,-,q1,q2,q3,q4,q5,q6⟩:=HKN.out
  rw[q1,q2,q3,q4,q5,q6,HN.1,HN.2]
  exact e
 by_cases hk:Xk=Yk
 case neg=>
  have b3:(Xk !=Yk)=true:=bne_iff_ne.2 hk
  have b3':(Xk==Yk)=false:=beq_eq_false_iff_ne.2 hk
  have HQ:=ad (HCL.out fun e=>hk e.1)
  clear hk HCL
  go_wp2_with fail
  exact HQ.out
 by_cases hn:Xn=Yn
 case neg=>
  have b3:(Xk !=Yk)=false:=by rw[hk];exact bne_self_eq_false _
  have b3':(Xk==Yk)=true:=by rw[hk];exact beq_self_eq_true _
  have b4:(Xn !=Yn)=true:=bne_iff_ne.2 hn
  have b4':(Xn==Yn)=false:=beq_eq_false_iff_ne.2 hn
  have HQ:=ad (HCL.out fun e=>hn e.2.1)
  clear hk hn HCL
  go_wp2_with fail
  exact HQ.out
 by_cases hs:Xs=Ys
 case neg=>
  have b3:(Xk !=Yk)=false:=by rw[hk];exact bne_self_eq_false _
  have b3':(Xk==Yk)=true:=by rw[hk];exact beq_self_eq_true _
  have b4:(Xn !=Yn)=false:=by rw[hn];exact bne_self_eq_false _
  have b4':(Xn==Yn)=true:=by rw[hn];exact beq_self_eq_true _
  have b5:(Xs==Ys)=false:=beq_eq_false_iff_ne.2 hs
  have HQ:=ad (HCL.out fun e=>hs e.2.2.1)
  clear hk hn hs HCL
  go_wp2_with fail
  exact HQ.out
 by_cases hnn:n1=n2
 case neg=>
  have b3:(Xk !=Yk)=false:=by rw[hk];exact bne_self_eq_false _
  have b3':(Xk==Yk)=true:=by rw[hk];exact beq_self_eq_true _
  have b4:(Xn !=Yn)=false:=by rw[hn];exact bne_self_eq_false _
  have b4':(Xn==Yn)=true:=by rw[hn];exact beq_self_eq_true _
  have b5:(Xs==Ys)=true:=by rw[hs];exact beq_self_eq_true _
  have b6:((n1:Int)!=(n2:Int))=true:=bne_iff_ne.2 (by omega)
  have b6':((n1:Int)==(n2:Int))=false:=beq_eq_false_iff_ne.2 (by omega)
  have HQ:=ad (HCL.out fun e=>hnn e.2.2.2)
  clear hk hn hs hnn HCL
  go_wp2_with fail
  exact HQ.out
 subst hk hn hs hnn
 have b3:(Xk !=Xk)=false:=bne_self_eq_false _
 have b4:(Xn !=Xn)=false:=bne_self_eq_false _
 have b5:(Xs==Xs)=true:=beq_self_eq_true _
 have b6:((n1:Int)!=(n1:Int))=false:=bne_self_eq_false _
 have hwn:IntKind.i64.wrap ((n1:Int)-1)=(n1:Int)-1:=IntWalk.i64_in _ (by omega)
 clear HCL
 go_wp2_with fail
 clear b1 b2 b3 b4 b5 b6 x0 x1 x2 xf y0 y1 y2 yf hlx hly p0
 go_loopw [14] (fun i wi=>∃(k:Nat) (wv':Value),i=ae ((k:Int)-1)/\k<=n1/\Hid (cU rb sb wi safe w wv' (ps++((x.args.zip y.args).drop k).reverse)/\TF nV W4 wi)) (fun i _=>(intOf i+1).toNat)
 case atStart=>exact⟨n1,wv,rfl,aC,ad ⟨by rw[List.drop_eq_nil_of_le (by rw[List.length_zip,<-HN.1,<-HN.2];omega),List.reverse_nil,List.append_nil];exact HU4.1,TF.refl _ _⟩⟩
 case round=>
  obtain⟨k,wv',rfl,hk,HI⟩:=hrel
  obtain _|k:=k
  ·have hng:¬(((0:Nat):Int)-1≥0):=by omega
   have HQ:Hid (P (.returned (.tuple #[.bool true,ae 0])) wr):=ad (by
    rw[HP.out]
    obtain⟨q0,q1,q2,q3,q4,q5,q6,q7⟩:=HKN.out
    have h1:=HI.1
    rw[List.drop_zero]at h1
    exact eJ.args (HU4.2.2.1.trans (HI.2.mono fun _ hx=>List.mem_append_left _ hx)) HR.1 HR.2 HX.1 HX.2 q0 q1 ⟨by rw[<-q2,<-q3],by rw[<-q4,<-q5],by rw[<-q6,<-q7],by rw[<-HN.1,<-HN.2]⟩ h1 (HU4.2.1.tf HI.2 (by decide)))
   go_wp2_with fail
   exact HQ.out
  ·obtain⟨p1,hp1⟩:∃p,x.args[k]?=some p:=⟨_,au (by rw[<-HN.1];omega)⟩
   obtain⟨p2,hp2⟩:∃p,y.args[k]?=some p:=⟨_,au (by rw[<-HN.2];omega)⟩
   obtain⟨g1,o1,rfl,t1,q1⟩:=(HU4.2.2.2.1.keep (u':=wr) fun b hb=>HI.2.block hb (by decide)).at' k p1 hp1
   obtain⟨g2,o2,rfl,t2,q2⟩:=(HU4.2.2.2.2.keep (u':=wr) fun b hb=>HI.2.block hb (by decide)).at' k p2 hp2
   have ek:(((k+1:Nat):Int)-1)=(k:Int):=by omega
   have hk0:(0:Int)<=(k:Int):=by omega
   have hk1:(k:Int)<(n1:Int):=by omega
   have hwk1:IntKind.i64.wrap ((k:Int)-1)=(k:Int)-1:=IntWalk.i64_in _ (by omega)
   have HS:Hid (∀v,TF nV wr v->v.cell? (ak g1 (o1+k))=some (ae (p1:Nat))/\v.cell? (ak g2 (o2+k))=some (ae (p2:Nat))):=ad fun v hv=>⟨(World.cell?_of_block (a:=⟨g1,o1+k,none⟩) (hv.block t1 (by decide))).trans q1,(World.cell?_of_block (a:=⟨g2,o2+k,none⟩) (hv.block t2 (by decide))).trans q2⟩
   have HPP:=ad (aD hp1 hp2)
   have hl1:=t1.lt
   have hl2:=t2.lt
   have HLK:Hid ((ps++((x.args.zip y.args).drop (k+1)).reverse).length+1<=100000000):=ad (by
    rw[List.length_append,List.length_reverse,List.length_drop,List.length_zip]
    have:=HN.1
    omega)
   rw[ek]
   clear hp1 hp2 t1 t2 q1 q2
   go_wp2_with fail
   go_region_held3 (fun v=>v.cell? (ak g1 (o1+k))=some (ae (p1:Nat))/\v.cell? (ak g2 (o2+k))=some (ae (p2:Nat)))
    (first|(with_reducible exact HS.out _ (TF.refl _ _))|(with_reducible exact HS.out _ (TF.refl _ _).drew)|(with_reducible exact HS.out _ ((TF.refl _ _).drew.trans hf5)))
    (first|(go_at_call 379;refine(zb (HI.1.later aA.drew) p1 p2 HLK.out).mono ?_;rintro e w5 ⟨rfl,⟨wv5,hu5⟩,hf5⟩))
   have HN5:=ad (aD hu5 (HI.2.drew.trans hf5))
   clear hu5 hf5 HS
   go_wp2_with fail
   go_roundw
   case rel=>
    refine⟨k,wv5,rfl,by omega,ad ⟨?_,HN5.2⟩⟩
    have hz:(x.args.zip y.args)[k]?=some (p1,p2):=by rw[List.getElem?_zip_eq_some];exact HPP.out
    obtain⟨hlt,hz⟩:=aq hz
    rw[List.drop_eq_getElem_cons hlt,hz,List.reverse_cons,<-List.append_assoc]
    exact HN5.1
   case measure=>
    simp only[intOf]
    omega
end
end
section
open Go.RowKit Go.Maps
variable[Base]
section
variable {rb sb room:Nat} {u u':World} {safe:Bool} {w:Nat} {wv cv bv:Value} {ps:List (Nat×Nat)} {xs:List ec} {cs:List Sc} {ys:List (Nat×Int)}
def sP (sb room:Nat) (u:World) (safe:Bool) (cs:List Sc) (ys:List (Nat×Int)) (a b:Nat) (e:Ending) (u':World):Prop:=
 ∃(ok:Bool) (z:Int) (cv' bv':Value) (xs':List ec) (cs':List Sc) (ys':List (Nat×Int)) (csF:List Sc) (bsF:List Nat),
  e=.returned (.tuple #[.bool ok,ae z])/\aL sb room u' cv' bv' xs' cs' ys'/\TF oD u u'/\(∃e',ys'=ys++e'/\ys'.length<=ys.length+20001/\cs'.length=cs.length)/\l6 safe cs [] [(a,b)] 0 (ok,z) csF bsF/\(ok=true->csF=cs'/\ys'.map (·.1)=ys.map (·.1)++bsF)
structure zV (rb sb room:Nat) (u:World) (safe:Bool) (cs:List Sc) (ys:List (Nat×Int)) (a b:Nat) (gk:Nat) (wr:World) (w':Nat) (wv' cv' bv':Value) (ps':List (Nat×Nat)) (xs':List ec) (cs':List Sc) (ys':List (Nat×Int)) (bs':List Nat):Prop where
 un:cU rb sb wr safe w' wv' ps'
 st:aL sb room wr cv' bv' xs' cs' ys'
 fr:TF oD u wr
 len:cs'.length=cs.length
 ext:∃e',ys'=ys++e'
 yl:ys'.length<=ys.length+w'
 pl:ps'.length<=1+255*w'
 in':∀p∈ps',p.1<cs.length/\p.2<cs.length
 bs:ys'.map (·.1)=ys.map (·.1)++bs'
 uni:∀R cs9 bs9,l6 safe cs' bs' ps'.reverse w' R cs9 bs9->l6 safe cs [] [(a,b)] 0 R cs9 bs9
 gas:w'+gk=20001
theorem DH (h:cU rb sb u safe 0 wv []) (hs:aL sb room u cv bv xs cs ys) (a b:Nat) (ha:a<cs.length) (hb:b<cs.length) (hm:ys.length+20001<=100000000):
 Calls prog 349 #[ah rb,ae (a:Nat),ae (b:Nat)] u fun e u'=>sP sb room u safe cs ys a b e u':=by
 have H:=ad (aD h hs)
 have HAB:=ad (aD ha hb)
 refine aa fun P hP=>?_
 have HP:=ad hP
 have hl:=h.lt
 clear hP h hs ha hb
 go_enter func349,ntmps349
 go_wp2_with (go_at_call 379;refine(zb H.1 a b (by simp)).mono ?_;rintro e w1 ⟨rfl,⟨wv1,hu1⟩,hf1⟩)
 have HI0:Hid (zV rb sb room u safe cs ys a b 20001 w1 0 wv1 cv bv [(a,b)] xs cs ys []):=ad
  ⟨hu1,H.2.tf hf1 (by decide),hf1.mono fun _ hx=>List.mem_append_left _ hx,rfl,⟨[],by simp⟩,by omega,by simp,fun p hp=>by rw[List.mem_singleton]at hp;rw[hp];exact HAB.out,by simp,fun _ _ _ h=>h,rfl⟩
 clear hu1 hf1 H
 go_wp2_with fail
 go_loopg [] 20001 (fun gk wr=>∃(w':Nat) (wv' cv' bv':Value) (ps':List (Nat×Nat)) (xs':List ec) (cs':List Sc) (ys':List (Nat×Int)) (bs':List Nat),Hid (zV rb sb room u safe cs ys a b gk wr w' wv' cv' bv' ps' xs' cs' ys' bs'))
 case atStart=>exact⟨_,_,_,_,_,_,_,_,_,HI0⟩
 case round=>
  obtain⟨w',wv',cv',bv',ps',xs',cs',ys',bs',HI⟩:=hrel
  clear HI0
  by_cases hnil:ps'=[]
  ·subst hnil
   obtain⟨A2,c2,e2⟩:=HI.un.row.shape
   subst e2
   obtain⟨-,-,-,p3,-⟩:=HI.un.cells
   have hlw:=HI.un.lt
   have HQ:Hid (P (.returned (.tuple #[.bool true,ae 0])) wr):=ad (by
    rw[HP.out]
    have hw:=HI.un.work
    exact⟨true,0,_,_,_,cs',ys',cs',bs',rfl,HI.st,HI.fr,HI.ext.imp fun e' he=>⟨he,by have:=HI.yl;omega,HI.len⟩,HI.uni _ _ _ .done,fun _=>⟨rfl,HI.bs⟩⟩)
   go_wp2_with fail
   exact HQ.out
  ·obtain⟨l0,p,rfl⟩:∃l0 p,ps'=l0++[p]:=⟨_,_,(List.dropLast_concat_getLast hnil).symm⟩
   obtain⟨g,cap,e1,g1,g2,g3,g4⟩:=HI.un.row.cells j9 hnil
   rw[List.length_append,List.length_singleton]at e1 g3
   subst e1
   have q0:=(g4 l0.length p (by simp) 0 _ rfl).1
   have q1:=(g4 l0.length p (by simp) 1 _ rfl).1
   obtain⟨-,-,-,p3,pf⟩:=HI.un.cells
   have hlw:=HI.un.lt
   have hpl:=HI.pl
   rw[List.length_append,List.length_singleton]at hpl
   have hwk:=HI.un.work
   have hw1:IntKind.i64.wrap (((l0.length+1:Nat):Int)-1)=(l0.length:Int):=by rw[IntWalk.i64_in _ (by omega)];omega
   have hw2:IntKind.i64.wrap (l0.length:Int)=(l0.length:Int):=IntWalk.i64_in _ (by omega)
   have hn0:(0:Int)<=(l0.length:Int):=by omega
   have hn1:(0:Int)<(l0.length:Int)+1:=by omega
   have hn2:(l0.length:Int)<(l0.length:Int)+1:=by omega
   have hn3:((l0.length+1:Nat):Int)=(l0.length:Int)+1:=by omega
   have hn4:l0.length<l0.length+1:=by omega
   rw[Nat.add_zero]at q0
   obtain⟨pa,pb⟩:=p
   simp only at q0 q1
   clear g4 hnil hpl hwk
   have HS:Hid (∀v,TF [] wr v->v.cell? (ak rb 3)=some (al g (l0.length+1) cap)/\v.cell? (ak g (l0.length*2))=some (ae (pa:Nat))/\v.cell? (ak g (l0.length*2+1))=some (ae (pb:Nat))):=ad fun v hv=>
    have h1:=hv.block (t:=471) ⟨_,HI.un.blk⟩ (by simp)
    have h2:=hv.block (HI.un.row.ty (g:=g) rfl) (by simp)
    ⟨(World.cell?_of_block (a:=⟨rb,3,none⟩) h1).trans p3,(World.cell?_of_block (a:=⟨g,l0.length*2,none⟩) h2).trans q0,(World.cell?_of_block (a:=⟨g,l0.length*2+1,none⟩) h2).trans q1⟩
   go_upto_region 4 with fail
   clear p3 q0 q1
   go_region_held3 (fun v=>v.cell? (ak rb 3)=some (al g (l0.length+1) cap)/\v.cell? (ak g (l0.length*2))=some (ae (pa:Nat))/\v.cell? (ak g (l0.length*2+1))=some (ae (pb:Nat)))
    (first|(with_reducible exact HS.out _ (TF.refl _ _))|(with_reducible exact HS.out _ (TF.refl _ _).drew)|(with_reducible exact HS.out _ ((TF.refl _ _).drew.alloc _))|exact HS.out _ ((((TF.refl _ _).drew.alloc _).new (by simp) _).new (by simp) _))
    (fail)
   obtain⟨V,hV⟩:∃V,V=(wr.alloc (.cells #[ae (pa:Nat),ae (pb:Nat)] 509)).drew:=⟨_,rfl⟩
   have hbV:aE wr V:=by rw[hV];exact aB.drew
   have hz:V.heap[wr.heap.size]?=some (.cells #[ae (pa:Nat),ae (pb:Nat)] 509 (0,0)):=by rw[hV];exact az
   rw[<-hV]
   clear hV pf HS hlw
   obtain⟨-,-,-,p3,pf⟩:=(HI.un.later hbV).cells
   have hlV:=(HI.un.later hbV).lt
   have HV:=ad (aD hbV hz)
   obtain⟨T1,hT1⟩:∃T,T=wr.heap.size:=⟨_,rfl⟩
   rw[<-hT1]
   have HT1:=ad hT1
   have hTV:T1<V.heap.size:=by rw[hT1];exact(ap hz).1
   clear hbV hz hT1
   go_upto_region 5 with fail
   have hn5:(l0.length:Int)<((l0.length+1:Nat):Int):=by omega
   have hn6:(l0.length:Int)<=(cap:Int):=by omega
   have hn7:l0.length<=cap:=by omega
   (refine wp_region_still_tail 14 (by kernel_rfl) (by kernel_rfl) ?_;simp only[List.take_succ_cons,List.take_zero,List.drop_succ_cons,List.drop_zero];repeat (with_reducible refine wpStill_step ?_;intro KK hKK;go_simp;with_reducible refine hKK _ ?_;clear hKK KK));try (with_reducible refine wpStill_nil ?_)
   go_wp2_with fail
   have HI2:Hid (cU rb sb (V.setCell (ak rb 3) (al g l0.length cap)).drew safe w' (al g l0.length cap) l0/\aL sb room (V.setCell (ak rb 3) (al g l0.length cap)).drew cv' bv' xs' cs' ys'/\TF oD u (V.setCell (ak rb 3) (al g l0.length cap)).drew/\(V.setCell (ak rb 3) (al g l0.length cap)).drew.heap[T1]?=some (.cells #[ae (pa:Nat),ae (pb:Nat)] 509 (0,0))):=ad (by
    have hu:=HI.un.later HV.1
    have hrun:aR V 471 rb:=⟨_,hu.blk⟩
    have hn:T1≠rb:=fun e=>by have:=HI.un.lt;rw[HT1.out]at e;omega
    refine⟨⟨aK hu.blk _,(aS.front j9 hu.row).keep fun k hk'=>av _ _ _ _ (((aS.front j9 hu.row).ty hk').ne hrun (by decide)),hu.work,⟨by have:=hu.few.1;rw[List.length_append]at this;omega,hu.ge⟩⟩,?_,((HI.fr.later HV.1).set (p:=(ak rb 3)) hrun (by decide) hu.ge _).drew,?_⟩
    ·exact(HI.st.later HV.1).keep fun t b ht hb=>av _ _ _ _ (hb.ne hrun (fun e=>by subst e;exact absurd ht (by decide)))
    ·rw[<-HT1.out]at HV
     exact(av _ _ _ _ hn).trans HV.2)
   have hTV2:T1<(V.setCell (ak rb 3) (al g l0.length cap)).drew.heap.size:=by simpa[World.setCell]using hTV
   obtain⟨V2,hV2⟩:∃V2,V2=(V.setCell (ak rb 3) (al g l0.length cap)).drew:=⟨_,rfl⟩
   rw[<-hV2]at HI2 hTV2
   rw[<-hV2]
   clear hV2 p3 pf hlV hTV
   have HG:=ad (aD HI.gas (aD HI.len (aD HI.in' (aD HI.pl (aD HI.yl HI.uni)))))
   have HE:=ad (aD HI.ext HI.bs)
   clear HI HV
   refine(uI HI2.1).mono ?_
   rintro e W3 h3
   rcases h3 with⟨h20,rfl,rfl⟩|⟨h20,rfl,hu3,hf3,hk3⟩
   ·have HQ:Hid (P (.returned (.tuple #[.bool false,ae 16])) V2):=ad (by
     rw[HP.out]
     refine⟨false,16,_,_,_,cs',ys',cs',bs',rfl,HI2.2.1,HI2.2.2.1,HE.1.imp fun e' he=>⟨he,by have:=HG.2.2.2.2.1;omega,HG.2.1⟩,HG.2.2.2.2.2 _ _ _ ?_,fun e=>(by cases e)⟩
     rw[List.reverse_append,List.reverse_singleton]
     exact .tired (by omega))
    clear h20
    go_wp2_with fail
    exact HQ.out
   have hz3:=(hk3 T1 (fun e=>by have:=HI2.1.blk;rw[<-e,HI2.2.2.2]at this;injection this with this;injection this with _ this;exact absurd this (by decide))).trans HI2.2.2.2
   have HI3:Hid (cU rb sb W3 safe (w'+1) (al g l0.length cap) l0/\aL sb room W3 cv' bv' xs' cs' ys'/\TF oD u W3):=ad
    ⟨hu3,HI2.2.1.tf hf3 (by decide),HI2.2.2.1.trans (hf3.mono fun _ hx=>List.mem_append_left _ hx)⟩
   have z0:W3.cell? (ak T1 0)=some (ae (pa:Nat)):=by rw[cell_of_row W3 T1 0 _ _ (0,0) hz3];rfl
   have z1:W3.cell? (ak T1 1)=some (ae (pb:Nat)):=by rw[cell_of_row W3 T1 1 _ _ (0,0) hz3];rfl
   clear hu3 hf3 hk3 hz3 HI2 hTV2
   go_wp2_with fail
   have HIN:=HG.2.2.1 (pa,pb) (List.mem_append_right _ (List.mem_singleton.2 rfl))
   refine(DO HI3.1 HI3.2.1 pa pb (by rw[HG.2.1];exact HIN.1) (by rw[HG.2.1];exact HIN.2) (by have:=HG.2.2.2.2.1;omega) (by have:=HG.2.2.2.1;rw[List.length_append]at this;omega)).mono ?_
   rintro e W5 ⟨ok,z,w5,wv5,cv5,bv5,ps5,xs5,cs5,ys5,rfl,hu5,hs5,hf5,hw5,hc5,he5,hp5,hi5,hF,hT⟩
   have HO:=ad (aD hu5 (aD hs5 (aD hf5 (aD hw5 (aD hc5 (aD he5 (aD hp5 hi5)))))))
   have HFT:=ad (aD hF hT)
   clear hu5 hs5 hf5 hw5 hc5 he5 hp5 hi5 hF hT z0 z1 HIN
   cases ok with
   |false=>
    have HQ:Hid (P (.returned (.tuple #[.bool false,ae z])) W5):=ad (by
     rw[HP.out]
     obtain⟨e5,h6,h7⟩:=HO.2.2.2.2.2.1
     obtain⟨e',h8⟩:=HE.1
     refine⟨false,z,_,_,_,cs5,ys5,cs',bs',rfl,HO.2.1,HI3.2.2.trans HO.2.2.1,⟨e'++e5,by rw[h6,h8,List.append_assoc],by have:=HG.2.2.2.2.1;omega,HO.2.2.2.2.1.trans HG.2.1⟩,HG.2.2.2.2.2 _ _ _ ?_,fun e=>(by cases e)⟩
     rw[List.reverse_append,List.reverse_singleton]
     exact HFT.1 rfl _ _ _ rfl)
    go_wp2_with fail
    exact HQ.out
   |true=>
    have HNX:Hid (0<gk/\∃bs5,zV rb sb room u safe cs ys a b (20001-w5) W5 w5 wv5 cv5 bv5 ps5 xs5 cs5 ys5 bs5):=ad (by
     obtain⟨hu5,hs5,hf5,hw5,hc5,⟨e5,h6,h7⟩,hp5,hi5⟩:=HO.out
     obtain⟨e',h8⟩:=HE.1
     obtain⟨d,bs5,h9,h10,h11⟩:=HFT.2 rfl
     obtain⟨k1,k2,k3,k4,k5,k6⟩:=HG.out
     have hwk:=hu5.work
     rw[List.length_append,List.length_singleton]at k4
     refine⟨by omega,bs'++bs5,hu5,hs5,HI3.2.2.trans hf5,by rw[hc5,k2],⟨e'++e5,by rw[h6,h8,List.append_assoc]⟩,by omega,by omega,fun p hp=>?_,by rw[h10,HE.2,List.append_assoc],fun R cs9 bs9 hU=>k6 R cs9 bs9 ?_,by omega⟩
     ·rcases hi5 p hp with hp|hp
      ·exact k3 p (List.mem_append_left _ hp)
      ·rw[k2]at hp
       exact hp
     ·rw[List.reverse_append,List.reverse_singleton]
      refine h11 _ _ _ _ _ _ rfl ?_
      rw[h9,List.reverse_append,List.reverse_reverse]at hU
      exact hU)
    have hlt:20001-w5<gk:=by
     have h1:=HG.1
     have h2:=HO.2.2.2.1
     have h3:=HNX.1
     omega
    go_wp2_with fail
    go_roundg (20001-w5)
    case measure=>exact hlt
    case rel=>
     obtain⟨bs5,h⟩:=HNX.2
     exact⟨_,_,_,_,_,_,_,_,_,ad h⟩
end
end
section
open Go.RowKit Go.Maps
variable[Base]
section
variable {sb room:Nat} {u u':World} {safe:Bool} {cv bv:Value} {xs:List ec} {cs:List Sc} {ys:List (Nat×Int)}
theorem wD (hs:aL sb room u cv bv xs cs ys) (a b:Nat) (ha:a<cs.length) (hb:b<cs.length) (hm:ys.length+20001<=100000000):
 Calls prog 272 #[ah sb,ae (a:Nat),ae (b:Nat),.bool safe] u fun e u'=>sP sb room u safe cs ys a b e u':=by
 have H:=ad hs
 have HAB:=ad (aD ha hb)
 refine aa fun P hP=>?_
 have HP:=ad hP
 obtain⟨U,hU⟩:∃U,U=u.alloc (.cells #[ah sb,.bool safe,ae 0,aj] 471):=⟨_,rfl⟩
 have hbU:aE u U:=by rw[hU];exact aB
 have HU:Hid (cU u.heap.size sb U safe 0 aj []/\aL sb room U cv bv xs cs ys/\TF oD u U):=ad
  ⟨⟨by rw[hU];exact az,aS.nil _ _ _ _ _,Nat.zero_le _,by simp,by have:=hs.ge;have:=hs.lt;omega⟩,hs.later hbU,by rw[hU];exact(TF.refl _ _).alloc _⟩
 clear hP hs ha hb hbU
 go_enter func272,ntmps272
 go_wp2_with (first|(go_at_call 348;with_reducible refine(uu H.out HAB.out.1).mono ?_;rintro e w1 ⟨rfl,rfl⟩)|(go_at_call 348;with_reducible refine(uu H.out HAB.out.2).mono ?_;rintro e w1 ⟨rfl,rfl⟩)|(go_at_call 157;refine(zJ H.out).mono ?_;rintro e w1 ⟨rfl,rfl⟩)|fail)
 rw[<-hU]
 clear hU
 refine(DH HU.1 HU.2.1 a b HAB.1 HAB.2 hm).mono ?_
 rintro e W ⟨ok,z,cv5,bv5,xs5,cs5,ys5,csF,bsF,rfl,hs5,hf5,he5,hu5,ht5⟩
 have H5:=ad (aD hs5 (aD (HU.2.2.trans hf5) (aD he5 (aD hu5 ht5))))
 clear hs5 hf5 he5 hu5 ht5
 cases ok with
 |true=>
  have HQ:Hid (P (.returned (.tuple #[.bool true,ae z])) W):=ad (by
   rw[HP.out]
   obtain⟨h1,h2,h3,h4,h5⟩:=H5.out
   exact⟨true,z,_,_,_,cs5,ys5,csF,bsF,rfl,h1,h2,h3,h4,h5⟩)
  go_wp2_with fail
  exact HQ.out
 |false=>
  go_wp2_with fail
  refine(nH H5.1 ys.length (by obtain⟨e',h,-⟩:=H5.2.2.1;rw[h,List.length_append];omega)).mono ?_
  rintro e W2 ⟨rfl,⟨bv6,xs6,h6⟩,hf6⟩
  have HQ:Hid (P (.returned (.tuple #[.bool false,ae z])) W2):=ad (by
   rw[HP.out]
   obtain⟨h1,h2,⟨e',h3,-,hl9⟩,h4,-⟩:=H5.out
   have e7:ys5.take ys.length=ys:=by rw[h3,List.take_left]
   rw[e7]at h6
   exact⟨false,z,_,_,_,_,ys,csF,bsF,rfl,h6,h2.trans (hf6.mono fun _ hx=>List.mem_append_right _ hx),⟨[],by simp,by omega,(lu _ _).trans hl9⟩,h4,fun e=>(by cases e)⟩)
  clear h6 hf6
  go_wp2_with fail
  exact HQ.out
theorem oo (hs:aL sb room u cv bv xs cs ys) (a b:Nat) (ha:a<cs.length) (hb:b<cs.length) (hm:ys.length+20001<=100000000):
 Calls prog 176 #[ah sb,ae (a:Nat),ae (b:Nat)] u fun e u'=>sP sb room u false cs ys a b e u':=by
 have HC:=ad (wD (safe:=false) hs a b ha hb hm)
 refine aa fun P hP=>?_
 have HP:=ad hP
 clear hP hs ha hb hm
 go_enter func176,ntmps176
 go_wp2_with fail
 refine HC.mono ?_
 intro e W h
 have HQ:Hid (P e W):=ad (by rw[HP.out];exact h)
 obtain⟨ok,z,-,-,-,-,-,-,-,rfl,-⟩:=h
 go_wp2_with fail
 exact HQ.out
end
end
section
open Go.RowKit Go.Maps
variable[Base]
def Es (ok:Bool):Int:=if ok then 0 else 1
def FO:List TypeId:=oD++rI
end
section
open Go.RowKit
theorem yg {w1:World} {b:Nat} {a0 a1 a2 a3 a4 a5:Value} {t:TypeId} (h:w1.heap[b]?=some (.cells #[a0,a1,a2,a3,a4,a5] t (0,0))):
 (w1.cell? (ak b 0)=some a0/\w1.cell? (ak b 1)=some a1/\w1.cell? (ak b 2)=some a2/\w1.cell? (ak b 3)=some a3/\w1.cell? (ak b 4)=some a4/\w1.cell? (ak b 5)=some a5)/\(∀o,w1.frozen? ⟨b,o,none⟩=false):=by
 have hf:∀o,w1.frozen? ⟨b,o,none⟩=false:=fun o=>by simp[World.frozen?,h]
 exact⟨⟨by rw[cell_of_row w1 b 0 _ t (0,0) h];rfl,by rw[cell_of_row w1 b 1 _ t (0,0) h];rfl,by rw[cell_of_row w1 b 2 _ t (0,0) h];rfl,by rw[cell_of_row w1 b 3 _ t (0,0) h];rfl,by rw[cell_of_row w1 b 4 _ t (0,0) h];rfl,by rw[cell_of_row w1 b 5 _ t (0,0) h];rfl⟩,hf⟩
def behind (b:List UInt8) (k:List UInt8×Bool):List UInt8×Bool:=if k.1=[]then vd b.length b else(k.1++b,true)
end
end Go.Proofs.YtigeofkllldilaaGreatDoor
namespace Go.Proofs
open Go.Shelf
open Go.RowKit in
open Go.RowKit Go.Lib in
def Tryz.lays138_ren:Go.Shelf.Ren:=⟨fun|138=>217|195=>294|218=>295|143=>120|219=>220|217=>218|225=>297|224=>298|267=>299|266=>296|314=>357|n=>n,fun|9=>9|3=>3|4=>4|5=>5|0=>0|46=>196|146=>480|51=>226|n=>n,fun|1=>3|n=>n⟩
theorem Tryz.lays138:Go.Proofs.Lays.n138 prog Tryz.lays138_ren:= {
 mixed:=by kernel_rfl
 f138:=func217.trans (congrArg some (by kernel_rfl))
 f143:=func120.trans (congrArg some (by kernel_rfl))
 f195:=func294.trans (congrArg some (by kernel_rfl))
 f217:=func218.trans (congrArg some (by kernel_rfl))
 f218:=func295.trans (congrArg some (by kernel_rfl))
 f219:=func220.trans (congrArg some (by kernel_rfl))
 f224:=func298.trans (congrArg some (by kernel_rfl))
 f225:=func297.trans (congrArg some (by kernel_rfl))
 f266:=func296.trans (congrArg some (by kernel_rfl))
 f267:=func299.trans (congrArg some (by kernel_rfl))
 f314:=func357.trans (congrArg some (by kernel_rfl))
 t0:=underlying0
 a0:=Tryz.isAgg0
 z0:=Tryz.sizeOf0
 v0:=Tryz.zeroValue0
 t3:=underlying3
 a3:=Tryz.isAgg3
 z3:=Tryz.sizeOf3
 v3:=Tryz.zeroValue3
 t4:=underlying4
 a4:=Tryz.isAgg4
 z4:=Tryz.sizeOf4
 v4:=Tryz.zeroValue4
 t5:=underlying5
 a5:=Tryz.isAgg5
 z5:=Tryz.sizeOf5
 v5:=Tryz.zeroValue5
 t9:=underlying9
 a9:=Tryz.isAgg9
 z9:=Tryz.sizeOf9
 v9:=Tryz.zeroValue9
 t46:=underlying196
 a46:=Tryz.isAgg196
 z46:=Tryz.sizeOf196
 v46:=Tryz.zeroValue196
 t51:=underlying226
 a51:=Tryz.isAgg226
 z51:=Tryz.sizeOf226
 v51:=Tryz.zeroValue226
 t146:=underlying480
 a146:=Tryz.isAgg480
 z146:=Tryz.sizeOf480
 v146:=Tryz.zeroValue480
 g1:=by kernel_rfl}
open Go.RowKit Go.Lib in
theorem Tryz.strings_Count_one (s:ByteArray) (c:UInt8) (w:World):
 Calls prog 217 #[.string s,.string ⟨#[c]⟩] w fun e w'=>e=.returned (ae (Lib.countByte s.data.toList c))/\w'=w:=Any.strings_Count_one Tryz.lays138 s c w
end Go.Proofs
namespace Go.Proofs.YtigeofkllldilaaGreatDoor
section
open Go.RowKit
def Bb (bx:Nat) (T:List UInt8) (a ln en:Nat) (v:Value):Array Value:=
 #[af T,ae (a:Int),ae (ln:Int),ae (en:Int),v,
  .func (.func 46) #[ah bx] #[],.func (.func 47) #[ah bx] #[],
  .func (.func 48) #[ah bx] #[],.func (.func 49) #[ah bx] #[],
  .func (.func 50) #[ah bx] #[],.func (.func 51) #[ah bx] #[]]
structure bk (w:World) (bx:Nat) (T:List UInt8) (a ln en:Nat) (v:Value):Prop where
 blk:w.heap[bx]?=some (.cells (Bb bx T a ln en v) 137 (0,0))
section
variable {w w':World} {bx a ln en:Nat} {T:List UInt8} {v:Value}
theorem bk.lt (h:bk w bx T a ln en v):bx<w.heap.size:=(ap h.blk).1
theorem bk.keep (h:bk w bx T a ln en v) (hb:w'.heap[bx]?=w.heap[bx]?):bk w' bx T a ln en v:=⟨hb.trans h.blk⟩
theorem bk.later (h:bk w bx T a ln en v) (hb:aE w w'):bk w' bx T a ln en v:=h.keep (hb.block _ h.lt)
theorem bk.cells (h:bk w bx T a ln en v):w.cell? (ak bx 0)=some (af T)/\w.cell? (ak bx 1)=some (ae (a:Int))/\w.cell? (ak bx 2)=some (ae (ln:Int))/\w.cell? (ak bx 3)=some (ae (en:Int))/\w.cell? (ak bx 4)=some v/\(∀o,w.frozen? ⟨bx,o,none⟩=false):=
 ⟨by rw[cell_of_row w bx 0 _ _ (0,0) h.blk];rfl,by rw[cell_of_row w bx 1 _ _ (0,0) h.blk];rfl,by rw[cell_of_row w bx 2 _ _ (0,0) h.blk];rfl,by rw[cell_of_row w bx 3 _ _ (0,0) h.blk];rfl,by rw[cell_of_row w bx 4 _ _ (0,0) h.blk];rfl,fun o=>by simp[World.frozen?,h.blk]⟩
theorem ca {b i:Nat} {cs:Array Value} {t:TypeId} (h:w.heap[b]?=some (.cells cs t (0,0))) (u:Value):(w.setCell (ak b i) u).heap[b]?=some (.cells (cs.setIfInBounds i u) t (0,0)):=by
 simp only[World.setCell,Array.getElem?_modify,h,if_true,Option.map_some,Option.isSome_none,Bool.false_eq_true,if_false]
theorem bk.setAt (h:bk w bx T a ln en v) (a':Nat):bk (w.setCell (ak bx 1) (ae (a':Int))) bx T a' ln en v:=⟨ca h.blk _⟩
theorem bk.setLn (h:bk w bx T a ln en v) (ln':Nat):bk (w.setCell (ak bx 2) (ae (ln':Int))) bx T a ln' en v:=⟨ca h.blk _⟩
theorem bk.setEn (h:bk w bx T a ln en v) (en':Nat):bk (w.setCell (ak bx 3) (ae (en':Int))) bx T a ln en' v:=⟨ca h.blk _⟩
theorem bk.setL (h:bk w bx T a ln en v) (v':Value):bk (w.setCell (ak bx 4) v') bx T a ln en v':=⟨ca h.blk _⟩
theorem bk.drew (h:bk w bx T a ln en v):bk w.drew bx T a ln en v:=⟨h.blk⟩
theorem bk.drewN (h:bk w bx T a ln en v) (n:Nat):bk (w.drewN n) bx T a ln en v:=⟨h.blk⟩
end
theorem Be (w:World) (bx:Nat) (T:List UInt8) (a ln en:Nat) (v:Value) (h:bk w bx T a ln en v) (m:Nat) (mi:Int) (hmi:mi=(m:Int)) (ham:a+m<=T.length) (hT:(T.length:Int)<=1000000) (hln:(ln:Int)<=1000000):
 Calls prog 117 #[ah bx,ae mi] w fun e w'=>e=am/\bk w' bx T (a+m) (ln+lC ((T.drop a).take m)) en v/\Fr (·=bx) w w':=by
 subst hmi
 obtain⟨c0,c1,c2,c3,c4,hf⟩:=h.cells
 have hs:(⟨T.toArray⟩:ByteArray).extract a (a+m)=⟨((T.drop a).take m).toArray⟩:=by rw[wF,show a+m-a=m by omega]
 have hcnt:∀W,Calls prog 217 #[af ((T.drop a).take m),.string ⟨#[10]⟩] W fun e w'=>e=.returned (ae (lC ((T.drop a).take m):Int))/\w'=W:=fun W=>Tryz.strings_Count_one _ 10 W
 have hlm:lC ((T.drop a).take m)<=T.length:=Nat.le_trans (List.count_le_length ..) (by rw[List.length_take,List.length_drop];omega)
 generalize lC ((T.drop a).take m)=L at*
 have HL:=ad h
 have hw1:IntKind.i64.wrap ((a:Int)+(m:Int))=(a:Int)+(m:Int):=IntWalk.i64_in _ (by omega)
 have hw2:IntKind.i64.wrap ((ln:Int)+(L:Int))=(ln:Int)+(L:Int):=IntWalk.i64_in _ (by omega)
 have hw3:((a:Int)+(m:Int)).toNat=a+m:=by omega
 have hw4:(0:Int)<=(a:Int)+(m:Int):=by omega
 have hw5:(a:Int)<=(a:Int)+(m:Int):=by omega
 have hw6:(a:Int)+(m:Int)<=(T.length:Int):=by omega
 clear h
 go_enter func117,ntmps117
 go_wp2_with fail
 go_still_tail 23,(by kernel_rfl)
 still_call (hcnt _)
 repeat still_step
 refine wpStill_nil ?_
 go_wp2_with fail
 go_end0
 refine⟨rfl,((HL.setLn (ln+L)).setAt (a+m)).drew,?_⟩
 exact(((Fr.refl (·=bx) w).setCell (p:=(ak bx 2)) (.inl rfl) _).setCell (p:=(ak bx 1)) (.inl rfl) _).drew
end
end Go.Proofs.YtigeofkllldilaaGreatDoor
