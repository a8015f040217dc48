import Derived.Test.YtigeofkllldilaaGreatDoorJM39
import Derived.Test.YtigeofkllldilaaGreatDoorJM34
import Derived.Test.YtigeofkllldilaaGreatDoorJM37
set_option maxHeartbeats 32000000
set_option maxRecDepth 100000
set_option linter.unusedSectionVars false
open Go.Proofs.Tryz
namespace Go.Proofs.YtigeofkllldilaaGreatDoor
section
open Go.RowKit Go.Maps
variable[Base]
def Fa (A:Option Addr) (c:Nat) (ce:Int):List Value:=[ae 3,ae 0,ae ce,.pointer none,ae 0,ae 0,.slice A 3 c,aj,aj,ae 0,aj,ae 0,.bool false]
structure eI (u:World) (hb:Nat) (A:Option Addr) (c:Nat) (ce:Int) (I:List Nat):Prop where
 blk:u.heap[hb]?=some (.cells (Fa A c ce).toArray 246 (0,0))
 args:bn u A I
 low:Base.b<=hb
section
variable {hb c:Nat} {u u':World} {A:Option Addr} {ce:Int} {I:List Nat}
theorem eI.lt (h:eI u hb A c ce I):hb<u.heap.size:=(ap h.blk).1
theorem eI.ty (h:eI u hb A c ce I):aR u 246 hb:=⟨_,h.blk⟩
theorem eI.tf {N:Nat} {tys:List TypeId} (h:eI u hb A c ce I) (hf:eL N tys u u') (h1:246∉tys) (h2:3∉tys):eI u' hb A c ce I:=
 ⟨(hf.block h.ty h1).trans h.blk,h.args.keep fun _ hb=>hf.block hb h2,h.low⟩
theorem eI.later (h:eI u hb A c ce I) (hb':aE u u'):eI u' hb A c ce I:=h.tf (TF.of_below [] hb') (by simp) (by simp)
theorem eI.get (h:eI u hb A c ce I) (k:Nat):u.cell? (ak hb k)=(Fa A c ce).toArray[k]?:=cell_of_row _ _ k _ _ _ h.blk
theorem eI.fz (h:eI u hb A c ce I) (o:Nat):u.frozen? ⟨hb,o,none⟩=false:=by simp[World.frozen?,h.blk]
theorem eI.set (h:eI u hb A c ce I) (k:Nat) (v:Value):TF [246] u (u.setCell (ak hb k) v):=(TF.refl _ u).set (p:=(ak hb k)) h.ty (by decide) h.low _
end
def BG:List TypeId:=[246,241,124]
section
variable {rb db ob room hb c:Nat} {r:RC} {u:World} {l:List (Int×List UInt8)} {spent:Int} {over:List UInt8} {cv bv:Value} {xs:List ec} {cs:List Sc} {A:Option Addr} {I:List Nat}
theorem AF (h:aT u rb r l db ob spent over) (hch:r.ch=aj) (hfr:r.fr=.pointer none) (hs:aL r.sb room u cv bv xs cs []) (hC:eI u hb A c 0 I):
 Calls prog 167 #[ah rb,ah hb] u fun e u'=>e=.returned (ae 0)/\(∃ch,aT u' rb {r with ch:=ch} l db ob spent over/\iU u' rb ch [hb])/\eI u' hb A c (cs.length:Nat) I/\TF BG u u':=by
 refine aa fun P hP=>?_
 have HP:=ad hP
 obtain⟨sb,hsb⟩:∃sb,sb=r.sb:=⟨_,rfl⟩
 obtain⟨i0,z0,hi0,hz0,hz1,hz2,hz3⟩:=ly
 have HIN:=ad (aD hi0 (aD hz0 (aD hz1 (aD hz2 hz3))))
 clear hi0 hz0 hz1 hz2 hz3
 have c8:u.cell? (ak rb 8)=some aj:=(h.run.get 8).trans (by show some r.ch=_;rw[hch])
 have m0:u.cell? (ak rb 0)=some (ah r.mb):=h.run.get 0
 have m5:u.cell? (ak r.mb 5)=some (ae 2000):=h.mach.cells.1.2.2.2.2.2.1
 have HI:=ad (aD h (aD hs (aD hC (aD hch (aD hfr hsb)))))
 obtain⟨ce,hce⟩:∃ce:Int,ce=((cs.length:Nat):Int):=⟨_,rfl⟩
 have HCE0:=ad hce
 clear hP h hch hfr hs hC hsb
 go_enter func167,ntmps167
 go_upto_region 1 with fail
 go_region
 clear c8 m0 m5
 obtain⟨X,hX⟩:∃X,X=u.drew:=⟨_,rfl⟩
 have hbX:aE u X:=by rw[hX];exact aA.drew
 have hTX:TF [246] u X:=TF.of_below _ hbX
 rw[<-hX]
 clear hX
 have HX:=ad (aD (HI.1.later hbX) (aD (HI.2.1.later hbX) (aD (HI.2.2.1.later hbX) hTX)))
 have x1:X.cell? (ak hb 1)=some (ae 0):=HX.2.2.1.get 1
 have x2:X.cell? (ak hb 2)=some (ae 0):=HX.2.2.1.get 2
 have xf:=HX.2.2.1.fz
 have hlX:=HX.2.2.1.lt
 have HR1:Hid (∀w,TF [246] X w->w.cell? (ak rb 1)=some (ah sb)):=ad fun w hw=>((HX.1.keep hw (by decide)).run.get 1).trans (by rw[HI.2.2.2.2.2];rfl)
 have b0:=(TF.refl [246] X).later aA.drew
 have hs0:aL sb room X.drew cv bv xs cs []:=by rw[HI.2.2.2.2.2];exact HX.2.1.later aA.drew
 have HMK:Hid (Calls prog 157 #[ah sb] X.drew fun e u'=>e=.returned (ae 0)/\u'=X.drew):=ad (uP hs0)
 have HCE:Hid (Calls prog 158 #[ah sb] X.drew fun e u'=>e=.returned (ae ce)/\u'=X.drew):=ad (by rw[hce];exact ky hs0)
 have hC0:=HX.2.2.1
 have a1:=hC0.set 1 (ae 0)
 have a2:=hC0.set 2 (ae ce)
 have b1:=a1.later aA.drew
 have b2:=a2.later aA.drew
 have b12:=(a1.set (p:=(ak hb 2)) ⟨_,aK hC0.blk _⟩ (by decide) hC0.low (ae ce)).later aA.drew
 have b21:=(a2.set (p:=(ak hb 1)) ⟨_,aK hC0.blk _⟩ (by decide) hC0.low (ae 0)).later aA.drew
 clear hbX hTX hs0 hC0 a1 a2 hce
 go_upto_region 3 with fail
 go_cut []from 21 to 36 (fun v=>Hid (v.heap[hb]?=some (.cells (Fa A c ce).toArray 246 (0,0))/\TF [246] X v))
 case first=>
  go_region_held3 (fun w=>w.cell? (ak rb 1)=some (ah sb))
   (first|(with_reducible exact HR1.out _ (by assumption)))
   (first|(go_at_call 157;with_reducible refine HMK.out.mono ?_;rintro e w1 ⟨rfl,rfl⟩)|(go_at_call 158;with_reducible refine HCE.out.mono ?_;rintro e w1 ⟨rfl,rfl⟩))
  all_goals
   go_wp2_with fail
   go_meet
   have hblk:X.drew.heap[hb]?=some (.cells (Fa A c 0).toArray 246 (0,0)):=HX.2.2.1.blk
   first
    |exact ad ⟨aK (aK hblk _) _,b12⟩
    |exact ad ⟨aK (aK hblk _) _,b21⟩
 case rest=>
  obtain⟨v,rfl⟩:∃v:World,v=wc:=⟨_,rfl⟩
  have HV:=hcut
  clear hcut x1 x2 xf hlX HR1 HMK HCE b0 b1 b2 b12 b21
  have HCV:Hid (eI v hb A c ce I/\aT v rb r l db ob spent over):=ad ⟨⟨HV.1,HX.2.2.1.args.keep fun _ hb=>HV.2.block hb (by decide),HX.2.2.1.low⟩,HX.1.keep HV.2 (by decide)⟩
  have v3:v.cell? (ak hb 3)=some (.pointer none):=HCV.1.get 3
  have v7:v.cell? (ak rb 7)=some (.pointer none):=(HCV.2.run.get 7).trans (by show some r.fr=_;rw[HI.2.2.2.2.1])
  have vf:=HCV.1.fz
  have hlv:=HCV.1.lt
  obtain⟨Y,hY⟩:∃Y,Y=v.setCell (ak hb 3) (.pointer none):=⟨_,rfl⟩
  have HY:Hid (eI Y hb A c ce I/\aT Y rb r l db ob spent over/\TF [246] u Y):=ad (by
   have hT:=HCV.1.set 3 (.pointer none)
   rw[<-hY]at hT
   refine⟨⟨?_,HCV.1.args.keep fun _ hb=>hT.block hb (by decide),HCV.1.low⟩,HCV.2.keep hT (by decide),HX.2.2.2.trans (HV.2.trans hT)⟩
   rw[hY]
   exact aK HCV.1.blk _)
  go_upto_region 5 with fail
  rw[<-hY]
  clear hY v3 v7 vf hlv HCV HV
  have g8:Y.cell? (ak rb 8)=some aj:=(HY.2.1.run.get 8).trans (by show some r.ch=_;rw[HI.2.2.2.1])
  have hlr:=HY.2.1.run.lt
  obtain⟨hi0',hz0,hz1,hz2,hz3⟩:=HIN.out
  go_wp2_with (at_builtin;refine cK rfl _ _ 118 rfl _ (rb+1) 241 i0 z0 1 8 qy underlying118 hi0' hz0 hz1 hz2 hz3 (by decide) (fun _=>rfl) qx _ [] hb rfl (aS.nil ..) _ 1 rfl (fun j w hw=>by rw[bV _ _ _ j w (by rw[<-Array.getElem?_toList];exact hw)]) (by decide) (by decide) (by simp;omega) ?_)
  intro v' w2 hr hg
  have hT2:TF [] Y w2:=((TF.refl _ Y).alloc _).grown hg fun g e=>by cases e
  obtain⟨A3,c3,rfl⟩:=hr.shape
  rw[show[hb].length=1 from rfl]at hr⊢
  have hR2:=HY.2.1.keep hT2 (fun _ _ h=>by cases h)
  have h9:=hR2.put (r':= {r with ch:=.slice A3 1 c3}) 8 (.slice A3 1 c3) rfl rfl rfl
  have hT9:TF [124] Y (w2.setCell (ak rb 8) (.slice A3 1 c3)):=(hT2.mono (by decide)).trans h9.2
  have HQ:Hid (P (.returned (ae 0)) (w2.setCell (ak rb 8) (.slice A3 1 c3))):=ad (by
   rw[HP.out]
   refine⟨rfl,⟨_,h9.1,h9.2.row hr (by decide)⟩,?_,(HY.2.2.mono (by decide)).trans (hT9.mono (by decide))⟩
   rw[<-HCE0.out]
   exact HY.1.tf hT9 (by decide) (by decide))
  have c8:w2.cell? (ak rb 8)=some aj:=(hR2.run.get 8).trans (by show some r.ch=_;rw[HI.2.2.2.1])
  have cf:=hR2.run.fz
  have hl2:=hR2.run.lt
  clear hT2 hr hg hR2 h9 hT9 g8
  go_wp2_with fail
  exact HQ.out
end
end
section
open Go.RowKit Go.Maps
variable[Base]
theorem rE {tys:List TypeId} {t:TypeId} {g:Nat} {u:World} (ht:t∈tys) (hB:Base.b<=g):∀(vs:List Value) (u':World) (o:Nat),TF tys u u'->aR u' t g->TF tys u (u'.setCells g o vs)
 |[],_,_,h,_=>h
 |v::r,u',o,h,hg=>rE ht hB r _ (o+1) (h.set (p:=(ak g o)) hg ht hB v) (by
  obtain⟨cs,h1⟩:=hg
  exact⟨_,aK h1 v⟩)
section
variable {sb room:Nat} {u:World} {cv bv:Value} {xs:List ec} {cs:List Sc}
theorem aL.clear (h:aL sb room u cv bv xs cs []) (k:Nat) (hk:k<=cs.length) {g cap:Nat} (hc:cv=al g cs.length cap):
 ∃vs,(Builtin.clear_ #[186] 0 #[.slice (some (ak g (k*6))) (cs.length-k) (cap-k)]).run prog u=.ok (.tuple #[]) (u.setCells g (k*6) vs):=by
 have hty:aR u 378 g:=h.row.ty (by rw[hc];rfl)
 refine rg u g (k*6) (cs.length-k) (cap-k) (fun j hj=>?_) fun j=>?_
 ·have hi:(k*6+j)/6<xs.length:=by rw[h.len];omega
  obtain⟨g2,cap2,e1,-,-,-,e5⟩:=h.row.cells fI (by rintro rfl;simp at hi)
  rw[hc]at e1
  injection e1 with e1
  injection e1 with e1
  injection e1 with e1
  subst e1
  have hx:=au hi
  generalize xs[(k*6+j)/6]=x at hx
  obtain⟨v,hv⟩:∃v,(iD x)[(k*6+j)%6]?=some v:=⟨_,au (by rw[fI];omega)⟩
  have h1:=(e5 _ x hx _ v hv).1
  rw[show(k*6+j)/6*6+(k*6+j)%6=k*6+j by omega]at h1
  rw[h1]
  rfl
 ·obtain⟨iy,h0⟩:=hty
  simp[World.frozen?,h0]
theorem B4 (h:aL sb room u cv bv xs cs []) (k:Nat) (hk:0<k) (hkl:k<=cs.length):
 Calls prog 278 #[ah sb,ae (k:Nat)] u fun e u'=>(∃z:Int,e=.returned (ae z))/\TF lr u u':=by
 refine aa fun P hP=>?_
 have HP:=ad hP
 obtain⟨j,hj⟩:∃j,j=k-1:=⟨_,rfl⟩
 obtain⟨c,hc⟩:∃c,cs[j]?=some c:=⟨_,au (by omega)⟩
 obtain⟨g,cap,x,hcv,hsg,hgl,-,-,hfz,-,-,-,-,-,d5⟩:=h.at hc
 obtain⟨A,cb,hbv⟩:=h.bonds.shape
 obtain⟨-,c1,c2,sf⟩:=h.cells
 rw[hcv]at c1
 rw[hbv]at c2
 replace c2:u.cell? (ak sb 2)=some (.slice A 0 cb):=c2
 obtain⟨vs,hcl⟩:=h.clear k hkl hcv
 have hgt:aR u 378 g:=h.row.ty (by rw[hcv];rfl)
 have hT:=rE (tys:=lr) (by decide) (h.rowge (g:=g) (by rw[hcv];rfl)) vs u (k*6) (TF.refl _ u) hgt
 obtain⟨V,hV⟩:∃V,V=u.setCells g (k*6) vs:=⟨_,rfl⟩
 rw[<-hV]at hcl hT
 have hVs:V.heap[sb]?=u.heap[sb]?:=by
  rw[hV]
  exact(bX (S:=(·=g)) (w:=u) (.inl rfl) vs u (k*6) (Fr.refl _ _)).block sb h.lt (fun e=>by have e:sb=g:=e;omega)
 have v1:V.cell? (ak sb 1)=some (al g cs.length cap):=(World.cell?_of_block (a:=⟨sb,1,none⟩) hVs).trans c1
 have vf:∀o,V.frozen? ⟨sb,o,none⟩=false:=fun o=>by simp[World.frozen?,hVs,h.blk]
 have hlV:sb<V.heap.size:=Nat.lt_of_lt_of_le h.lt hT.size
 have HT:=ad (aD (hT.set (p:=(ak sb 1)) (t:=189) ⟨_,hVs.trans h.blk⟩ (by decide) h.room.2 (al g k cap)) (TF.refl lr u))
 obtain⟨tp,htp⟩:∃tp,tp=x.top:=⟨_,rfl⟩
 rw[<-htp]at d5
 have hls:=h.lt
 have hn:(cs.length:Int)<=16777216:=by have:=h.few;have:=h.room.1;omega
 have hk0:¬(k:Int)<0:=by omega
 have hk1:¬(cs.length:Int)<(k:Int):=by omega
 have hk2:(k:Int)>0:=by omega
 have hkn:(k:Int)<=(cs.length:Int):=by omega
 have hwj:IntKind.i64.wrap ((k:Int)-1)=(j:Int):=by rw[IntWalk.i64_in _ (by omega)];omega
 have hj0:(0:Int)<=(j:Int):=by omega
 have hj1:(j:Int)<(cs.length:Int):=by omega
 have hnc:cs.length<=cap:=by
  have hne:xs≠[]:=by intro e;have:=h.len;rw[e]at this;simp at this;omega
  obtain⟨g2,cap2,e1,-,-,e4,-⟩:=h.row.cells fI hne
  rw[hcv]at e1
  injection e1 with _ _ e1
  have:=h.len
  omega
 have hkc:k<=cap:=by omega
 have HS:=ad (aD h.blk h.room.2)
 have htk:(k:Int)<=tp\/¬(k:Int)<=tp:=by omega
 clear h hc hcv hbv hgt hT hV hVs htp hP hj hk
 go_enter func278,ntmps278
 go_upto_region 8 with fail
 rcases htk with htk|htk
 ·have HQ:Hid (∀z:Int,P (.returned (ae z)) u):=ad fun z=>by rw[HP.out];exact⟨⟨z,rfl⟩,HT.2⟩
  go_wp2_with fail
  exact HQ.out _
 ·have hcp:k=cap\/k≠cap:=by omega
  rcases hcp with rfl|hcp
  ·have hcl0:(Builtin.clear_ #[186] 0 #[al g (cs.length-k) 0]).run prog u=.ok (.tuple #[]) u:=by
    rw[show cs.length-k=0 by omega]
    simp[Builtin.clear_]
   have HQ:Hid (∀z:Int,P (.returned (ae z)) (u.setCell (ak sb 1) (al g k k))):=ad fun z=>by rw[HP.out];exact⟨⟨z,rfl⟩,HT.2.set (p:=(ak sb 1)) (t:=189) ⟨_,HS.1⟩ (by decide) HS.2 _⟩
   clear hcl v1 vf hlV hnc
   go_wp2_with fail
   exact HQ.out _
  ·have HQ:Hid (∀z:Int,P (.returned (ae z)) (V.setCell (ak sb 1) (al g k cap))):=ad fun z=>by rw[HP.out];exact⟨⟨z,rfl⟩,HT.1⟩
   clear hnc
   go_wp2_with fail
   exact HQ.out _
end
section
variable {rb hb c room ce:Nat} {r:RC} {u:World} {cv bv:Value} {xs:List ec} {cs:List Sc} {ys:List (Nat×Int)} {A:Option Addr} {I:List Nat}
theorem vy (h:bS u rb r) (hs:aL r.sb room u cv bv xs cs ys) (hC:eI u hb A c (ce:Nat) I) (h0:0<ce) (hce:ce<=cs.length):
 Calls prog 185 #[ah rb,ah hb] u fun e u'=>e=am/\TF lr u u'/\(ys=[]->cs.length=ce->∃cv bv xs,aL r.sb room u' cv bv xs cs []):=by
 refine aa fun P hP=>?_
 have HP:=ad hP
 obtain⟨sb,hsb⟩:∃sb,sb=r.sb:=⟨_,rfl⟩
 obtain⟨cz,hcz⟩:∃cz:Int,cz=((ce:Nat):Int):=⟨_,rfl⟩
 have c1:u.cell? (ak rb 1)=some (ah sb):=(h.get 1).trans (by rw[hsb];rfl)
 have h1:u.cell? (ak hb 1)=some (ae 0):=hC.get 1
 have hlt:=h.lt
 have hlh:=hC.lt
 have HSV:Hid (∀w,bS w rb r->eI w hb A c (ce:Nat) I->w.cell? (ak rb 1)=some (ah sb)/\w.cell? (ak hb 1)=some (ae 0)/\w.cell? (ak hb 2)=some (ae cz)):=ad fun w h1 h2=>⟨(h1.get 1).trans (by rw[hsb];rfl),h2.get 1,by rw[hcz];exact h2.get 2⟩
 have hd:=(Below.refl u.heap.size u).drew
 have HSD:=ad (HSV.out u.drew (h.later hd) (hC.later hd))
 have HUN:Hid (Calls prog 177 #[ah sb,ae 0] u.drew fun e u'=>e=am/\(∃bv xs cs',aL sb room u' cv bv xs cs' []/\cs'.length=cs.length/\(ys=[]->cs'=cs))/\bS u' rb r/\eI u' hb A c (ce:Nat) I/\TF lr u u'):=ad (by
  rw[hsb]
  refine(nH (hs.later hd) 0 (Nat.zero_le _)).mono ?_
  rintro e u' ⟨rfl,⟨bv',xs',k1⟩,k2⟩
  have hT:TF lr u u':=(TF.of_below _ hd).trans k2
  exact⟨rfl,⟨bv',xs',_,k1,lu _ _,fun e=>by rw[e];rfl⟩,(hT.block h.ty (by decide)).trans h,hC.tf hT (by decide) (by decide),hT⟩)
 have HI:=ad (aD hsb (aD h0 (aD hce (aD hcz (aD hs.few hs.room.1)))))
 clear hP hs h hC hsb hd c1 h1 hce h0 hcz
 go_enter func185,ntmps185
 go_wp2_with fail
 go_region_held3 (fun w=>w.cell? (ak rb 1)=some (ah sb)/\w.cell? (ak hb 1)=some (ae 0)/\w.cell? (ak hb 2)=some (ae cz))
  (first|(with_reducible exact HS1.out)|(with_reducible exact HSD.out))
  (first|(go_at_call 177;with_reducible refine HUN.out.mono ?_;rintro e w1 ⟨rfl,k1,k2,k3,k4⟩;have HS1:=ad (HSV.out w1 k2 k3);have HG1:=ad (aD k1 (aD k2 (aD k3 k4)));clear k1 k2 k3 k4))
 clear HUN hlt hlh HSD HS1
 obtain⟨bv1,xs1,cs1,hs1,hln,hcs⟩:=HG1.1
 rw[<-hln]at HI
 have hd1:=(Below.refl w1.heap.size w1).drew
 have HSD:=ad (HSV.out w1.drew (HG1.2.1.later hd1) (HG1.2.2.1.later hd1))
 obtain⟨nn,hnn⟩:∃nn:Int,nn=((cs1.length:Nat):Int):=⟨_,rfl⟩
 have HCE:Hid (Calls prog 158 #[ah sb] w1.drew fun e u'=>e=.returned (ae nn)/\u'=w1.drew):=ad (by rw[hnn];exact ky (hs1.later hd1))
 have hfew:=HI.2.2.2.2.1
 have hroom:=HI.2.2.2.2.2
 have hlo:=HI.2.1
 have hle:=HI.2.2.1
 have hcz:=HI.2.2.2.1
 obtain⟨q,hq⟩:∃q:Int,q=cz.tdiv 8:=⟨_,rfl⟩
 have hq0:0<=q/\q<=16777216/\q*8<=cz:=by
  rw[hq,Int.tdiv_eq_ediv_of_nonneg (by omega)]
  omega
 have hsub:IntKind.i64.wrap (nn-cz)=nn-cz:=IntWalk.i64_in _ (by omega)
 have hwq:IntKind.i64.wrap (cz.tdiv 8)=q:=by rw[<-hq];exact IntWalk.i64_in _ (by omega)
 have hwa:IntKind.i64.wrap (q+16)=q+16:=IntWalk.i64_in _ (by omega)
 have HCU:Hid (Calls prog 278 #[ah sb,ae cz] w1.drew.drew fun e u'=>(∃z:Int,e=.returned (ae z))/\TF lr u u'/\u'.cell? (ak rb 1)=some (ah sb)/\u'.cell? (ak hb 1)=some (ae 0)/\u'.cell? (ak hb 2)=some (ae cz)):=ad (by
  rw[hcz]
  refine(B4 ((hs1.later hd1).later aA.drew) ce hlo hle).mono ?_
  rintro e u' ⟨h1,h2⟩
  have hR:=HG1.2.1.later hd1.drew
  exact⟨h1,(HG1.2.2.2.later (hd1.drew)).trans h2,by rw[<-hcz];exact HSV.out u' ((h2.block hR.ty (by decide)).trans hR) ((HG1.2.2.1.later hd1.drew).tf h2 (by decide) (by decide))⟩)
 have HQ:Hid (P am w1.drew):=ad (by
  rw[HP.out]
  exact⟨rfl,HG1.2.2.2.later hd1,fun e _=>⟨cv,bv1,xs1,by rw[<-HI.1,<-hcs e];exact hs1.later hd1⟩⟩)
 have HQ2:Hid (q+16<nn-cz->∀u',TF lr u u'->P am u'):=ad fun hlt u' hT=>by
  rw[HP.out]
  exact⟨rfl,hT,fun _ e=>absurd e (by omega)⟩
 have hgt:q+16<nn-cz\/¬q+16<nn-cz:=by omega
 have HSD2:=ad (HSV.out w1.drew.drew (HG1.2.1.later hd1.drew) (HG1.2.2.1.later hd1.drew))
 clear hs1 hln hcs hnn hfew hroom hlo hle hcz hq0 hd1 HI hq
 go_wp2_with fail
 go_region_held3 (fun w=>w.cell? (ak rb 1)=some (ah sb)/\w.cell? (ak hb 1)=some (ae 0)/\w.cell? (ak hb 2)=some (ae cz))
  (first|(with_reducible exact HSD.out))
  (first|(go_at_call 158;with_reducible refine HCE.out.mono ?_;rintro e w2 ⟨rfl,rfl⟩))
 clear HCE HSV
 rcases hgt with hg|hg
 ·have HG:=ad hg
  go_wp2_with fail
  go_region_held3 (fun w=>w.cell? (ak rb 1)=some (ah sb)/\w.cell? (ak hb 1)=some (ae 0)/\w.cell? (ak hb 2)=some (ae cz))
   (first|(with_reducible exact HS2.out)|(with_reducible exact HSD2.out))
   (first|(go_at_call 278;with_reducible refine HCU.out.mono ?_;rintro e w2 ⟨⟨z,rfl⟩,k1,k2⟩;have HK:=ad k1;have HS2:=ad k2;clear k1 k2))
  go_wp2_with fail
  exact bodyPost_end (v:=.tuple #[]) (by simp[results,results185,go_sem]) rfl (HQ2.out HG.out _ HK.out)
 ·go_wp2_with fail
  exact bodyPost_end (v:=.tuple #[]) (by simp[results,results185,go_sem]) rfl HQ.out
end
end
section
open Go.RowKit Go.Maps
variable[Base]
def RC.ball (r:RC) (y:TV):RC:= {r with b0:=ae y.k,b1:=ae y.n,b2:=af y.s,b3:=.slice y.A y.len y.cap}
theorem aT.ball {u:World} {rb:Nat} {r:RC} {l:List (Int×List UInt8)} {db ob:Nat} {spent:Int} {over:List UInt8} (h:aT u rb r l db ob spent over) (y:TV):
 aT ((((u.setCell (ak rb 9) (ae y.k)).setCell (ak rb 10) (ae y.n)).setCell (ak rb 11) (af y.s)).setCell (ak rb 12) (.slice y.A y.len y.cap)) rb (r.ball y) l db ob spent over∧
  TF [124] u ((((u.setCell (ak rb 9) (ae y.k)).setCell (ak rb 10) (ae y.n)).setCell (ak rb 11) (af y.s)).setCell (ak rb 12) (.slice y.A y.len y.cap)):=by
 have h1:=h.put (r':= {r with b0:=ae y.k}) 9 (ae y.k) rfl rfl rfl
 have h2:=h1.1.put (r':= {r with b0:=ae y.k,b1:=ae y.n}) 10 (ae y.n) rfl rfl rfl
 have h3:=h2.1.put (r':= {r with b0:=ae y.k,b1:=ae y.n,b2:=af y.s}) 11 (af y.s) rfl rfl rfl
 have h4:=h3.1.put (r':=r.ball y) 12 (.slice y.A y.len y.cap) rfl rfl rfl
 exact⟨h4.1,((h1.2.trans h2.2).trans h3.2).trans h4.2⟩
theorem mS (u:World) (rb room i c:Nat) (r:RC) (l:List (Int×List UInt8)) (db ob:Nat) (spent:Int) (over:List UInt8) (cv bv:Value) (xs:List ec) (cs:List Sc) (ys:List (Nat×Int)) (A:Option Addr) (x:TV) (fv:Value) (t:Tm)
 (h:aT u rb r l db ob spent over) (hs:aL r.sb room u cv bv xs cs ys) (hv:cj cs) (ht:ic cs i t) (hk:t.k≠1) (hsz:t.size<=2000) (hA:bn u A [i]):
 Calls prog 88 #[ah rb,fv,aU x,.slice A 1 c] u fun e u'=>e=.returned (ae 2)/\∃y,aT u' rb (r.ball y) l db ob spent over/\aI u' (fL u.heap.size u') y t/\TF [124] u u':=by
 refine aa fun P hP=>?_
 have HP:=ad hP
 obtain⟨-,g,off,rfl,hg,g0⟩:True/\∃g off,A=some (ak g off)/\aR u 3 g/\u.cell? (ak g (off+0))=some (ae (i:Nat)):=⟨trivial,by
  obtain⟨h1,h2⟩:=hA
  obtain⟨g,off,e,h3,h4⟩:=h2 0 i rfl
  exact⟨g,off,e,h3,h4⟩⟩
 simp only[Nat.add_zero]at g0
 obtain⟨U,hU⟩:∃U,U=u.alloc (.cells #[ae x.k,ae x.n,af x.s,.slice x.A x.len x.cap] 27):=⟨_,rfl⟩
 have hbU:aE u U:=by rw[hU];exact aB
 obtain⟨sb,hsb⟩:∃sb,sb=r.sb:=⟨_,rfl⟩
 have HE:Hid (∀w,aE u w->w.cell? (ak rb 1)=some (ah sb)/\w.cell? (ak g off)=some (ae (i:Nat))):=ad fun w hb=>
  ⟨by rw[(h.run.later hb).get 1,hsb];rfl,(hb.cell (p:=(ak g off)) hg.lt).trans g0⟩
 have HLK:Hid (∀W,aE u W->Calls prog 163 #[ah sb,ae (i:Nat)] W fun e w1=>∃A' n' c',e=.returned (.tuple #[.agg #[ae t.k,ae t.n,af t.s,aj],.slice A' n' c'])/\aE W w1/\aE u w1):=ad fun W hb=>by
  obtain⟨j,c0,l0,hr,hc,e1,e9,-⟩:=jY ht hv
  have hs':=hs.later hb
  rw[<-hsb]at hs'
  refine(fo hs' hr hc (by have:=jb l0;have e3:=congrArg Tm.size e1;simp only[Tm.size]at e3;omega)).mono ?_
  rintro e w1 ⟨A',c',rfl,h1,-,h3⟩
  refine⟨A',c0.args.length,c',?_,h3,hb.trans (h3.mono hb.size)⟩
  have e2:(di j c0).A=none/\(di j c0).len=0/\(di j c0).cap=0:=by unfold di;split<;>exact⟨rfl,rfl,rfl⟩
  rw[e1]
  unfold aU
  rw[e2.1,e2.2.1,e2.2.2]
  rfl
 have HGT:Hid (∀W,aE u W->Calls prog 173 #[ah sb,ae (i:Nat)] W fun e w1=>∃y:TV,e=.returned (.tuple #[aU y,ae 0])/\aI w1 (fL W.heap.size w1) y t/\aE W w1/\aE u w1):=ad fun W hb=>by
  have hs':=hs.later hb
  rw[<-hsb]at hs'
  refine(pY hs' hv ht hsz).mono ?_
  rintro e w1 ⟨y,rfl,h1,h2⟩
  exact⟨y,rfl,h1,h2,hb.trans (h2.mono hb.size)⟩
 have HB1:=ad hbU.drew
 have HB2:=ad (hbU.alloc hbU.size (.cells #[ae 0,ae 0,ai,aj] 27)).drew
 have HD2:=ad (HE.out _ HB2.out)
 have HD:=ad (HE.out _ HB1.out)
 have HZ2:Hid ((U.alloc (.cells #[ae 0,ae 0,ai,aj] 27)).drew.heap[U.heap.size]?=some (.cells #[ae 0,ae 0,ai,aj] 27 (0,0))):=ad (heap_alloc_new U _)
 have HL2:Hid (U.heap.size<(U.alloc (.cells #[ae 0,ae 0,ai,aj] 27)).drew.heap.size):=ad (ap HZ2.out).1
 have HH:=ad (aD h (aD hbU hk))
 have HSB:=ad hsb
 have huU:=ad hbU.size
 clear h hs hv ht hk hsz hA hP hbU hsb hg g0
 unfold aU
 go_enter func88,ntmps88
 go_upto_region 1 with fail
 rw[<-hU]
 clear hU
 go_region_held3 (fun w=>w.cell? (ak rb 1)=some (ah sb)/\w.cell? (ak g off)=some (ae (i:Nat)))
  (first|(with_reducible exact HA4.out)|(with_reducible exact HA3.out)|(with_reducible exact HA2.out)|(with_reducible exact HA1.out)|(with_reducible exact HD2.out)|(with_reducible exact HD.out))
  (first|(go_at_call 163;with_reducible (refine(HLK.out _ HB2.out).mono ?_;rintro e w1 ⟨A',n',c',rfl,g2,g3⟩);have HZ1:=ad ((g2.block U.heap.size HL2.out).trans HZ2.out);obtain⟨x0,x1,x2,x3,xf⟩:=aH HZ1.out;have HA1:=ad (HE.out w1 g3);have HA4:=ad (HE.out _ ((((g3.setCell (p:=(ak U.heap.size 0)) (huU.out) (ae t.k)).setCell (p:=(ak U.heap.size 1)) (huU.out) (ae t.n)).setCell (p:=(ak U.heap.size 2)) (huU.out) (af t.s)).setCell (p:=(ak U.heap.size 3)) (huU.out) aj));have HG:=ad g3;clear g2 g3)|(go_at_call 163;with_reducible (refine(HLK.out _ HB1.out).mono ?_;rintro e w1 ⟨A',n',c',rfl,g2,g3⟩);have HA1:=ad (HE.out w1 g3);have HA2:=ad (HE.out _ (g3.alloc g3.size (.cells #[ae 0,ae 0,ai,aj] 27)));have HA3:=ad (HE.out _ (g3.alloc g3.size (.cells #[ae t.k,ae t.n,af t.s,aj] 27)));have HG:=ad g3;clear g2 g3))
 focus
  obtain⟨tb,htb⟩:∃tb,tb=w1.heap.size:=⟨_,rfl⟩
  obtain⟨W,hW⟩:∃W,W=w1.alloc (.cells #[ae t.k,ae t.n,af t.s,aj] 27):=⟨_,rfl⟩
  have HX:Hid (W.heap[tb]?=some (.cells #[ae t.k,ae t.n,af t.s,aj] 27 (0,0))/\aE u W/\u.heap.size<=tb):=ad (by
   rw[hW,htb]
   exact⟨az,HG.alloc HG.size _,HG.size⟩)
  rw[<-hW,<-htb]
  clear hW htb HG HA1 HA2 HA3
 rotate_left
 focus
  obtain⟨tb,htb⟩:∃tb,tb=U.heap.size:=⟨_,rfl⟩
  obtain⟨W,hW⟩:∃W,W=((((w1.setCell (ak U.heap.size 0) (ae t.k)).setCell (ak U.heap.size 1) (ae t.n)).setCell (ak U.heap.size 2) (af t.s)).setCell (ak U.heap.size 3) aj):=⟨_,rfl⟩
  have HX:Hid (W.heap[tb]?=some (.cells #[ae t.k,ae t.n,af t.s,aj] 27 (0,0))/\aE u W/\u.heap.size<=tb):=ad (by
   rw[hW,htb]
   exact⟨bc HZ1.out rfl _ _ _ _,(((HG.setCell (p:=(ak U.heap.size 0)) huU.out _).setCell (p:=(ak U.heap.size 1)) huU.out _).setCell (p:=(ak U.heap.size 2)) huU.out _).setCell (p:=(ak U.heap.size 3)) huU.out _,huU.out⟩)
  rw[<-hW,<-htb]
  clear hW htb HG HA1 HA4 HZ1 x0 x1 x2 x3 xf
 all_goals
  clear HLK HB1 HB2 HD HD2 HZ2 HL2
  obtain⟨b0,b1,b2,b3,bf⟩:=aH HX.1
  have hk1:(t.k==1)=false:=by rw[beq_eq_false_iff_ne];exact HH.2.2
  have HWD:=ad HX.2.1.drew
  have HD:=ad (HE.out _ HWD.out)
  have HL:Hid (tb<W.heap.size):=ad (ap HX.1).1
  go_upto_region 4 with fail
  clear b0 b1 b2 b3 bf
  have HGT2:Hid (Calls prog 173 #[ah sb,ae (i:Nat)] W.drew fun e w2=>∃yk yn ys yA yl yc,e=.returned (.tuple #[.agg #[ae yk,ae yn,af ys,.slice yA yl yc],ae 0])/\(aI w2 (fL W.heap.size w2) ⟨yk,yn,ys,yA,yl,yc⟩ t/\aE u w2)/\w2.heap[tb]?=some (.cells #[ae t.k,ae t.n,af t.s,aj] 27 (0,0))∧
   (w2.cell? (ak rb 1)=some (ah sb)/\w2.cell? (ak g off)=some (ae (i:Nat)))∧
   (((((w2.setCell (ak tb 0) (ae yk)).setCell (ak tb 1) (ae yn)).setCell (ak tb 2) (af ys)).setCell (ak tb 3) (.slice yA yl yc)).cell? (ak rb 1)=some (ah sb)∧
     ((((w2.setCell (ak tb 0) (ae yk)).setCell (ak tb 1) (ae yn)).setCell (ak tb 2) (af ys)).setCell (ak tb 3) (.slice yA yl yc)).cell? (ak g off)=some (ae (i:Nat)))):=ad (by
   refine(HGT.out _ HWD.out).mono ?_
   rintro e w2 ⟨⟨yk,yn,ys,yA,yl,yc⟩,rfl,g1,g2,g3⟩
   exact⟨yk,yn,ys,yA,yl,yc,rfl,⟨g1,g3⟩,(g2.block tb HL.out).trans HX.1,HE.out _ g3,HE.out _ ((((g3.setCell (p:=(ak tb 0)) HX.2.2 _).setCell (p:=(ak tb 1)) HX.2.2 _).setCell (p:=(ak tb 2)) HX.2.2 _).setCell (p:=(ak tb 3)) HX.2.2 _)⟩)
  go_region_held3 (fun w=>w.cell? (ak rb 1)=some (ah sb)/\w.cell? (ak g off)=some (ae (i:Nat)))
   (first|(with_reducible exact HA4.out)|(with_reducible exact HA1.out)|(with_reducible exact HD.out))
   (first|(go_at_call 173;with_reducible (refine HGT2.out.mono ?_;rintro e w2 ⟨yk,yn,ys,yA,yl,yc,rfl,g1,g2,g3,g4⟩);have HZ1:=ad g2;obtain⟨x0,x1,x2,x3,xf⟩:=aH HZ1.out;have HA1:=ad g3;have HA4:=ad g4;have HG:=ad g1;clear g1 g2 g3 g4))
  obtain⟨V,hV⟩:∃V,V=((((w2.setCell (ak tb 0) (ae yk)).setCell (ak tb 1) (ae yn)).setCell (ak tb 2) (af ys)).setCell (ak tb 3) (.slice yA yl yc)):=⟨_,rfl⟩
  have HV:Hid (V.heap[tb]?=some (.cells #[ae yk,ae yn,af ys,.slice yA yl yc] 27 (0,0))/\aE u V/\aI V (fL u.heap.size V) ⟨yk,yn,ys,yA,yl,yc⟩ t):=ad (by
   rw[hV]
   have hne:∀b,fL W.heap.size w2 b->((((w2.setCell (ak tb 0) (ae yk)).setCell (ak tb 1) (ae yn)).setCell (ak tb 2) (af ys)).setCell (ak tb 3) (.slice yA yl yc)).heap[b]?=w2.heap[b]?:=fun b hb=>aM _ _ _ _ (by have:=HL.out;have:=hb.1;omega)
   exact⟨bc HZ1.out rfl _ _ _ _,(((HG.2.setCell (p:=(ak tb 0)) HX.2.2 _).setCell (p:=(ak tb 1)) HX.2.2 _).setCell (p:=(ak tb 2)) HX.2.2 _).setCell (p:=(ak tb 3)) HX.2.2 _,HG.1.keep (fun b hb=>⟨Nat.le_trans HX.2.1.size hb.1,hb.2.keep (hne b hb)⟩) hne⟩)
  rw[<-hV]
  clear hV HA1 HA4 HZ1 x0 x1 x2 x3 xf
  obtain⟨b0,b1,b2,b3,bf⟩:=aH HV.1
  have HR:=ad (HH.1.later HV.2.1)
  have hrf:=HR.run.fz
  have hrl:=HR.run.lt
  have r9:V.cell? (ak rb 9)=some r.b0:=(HR.run.get 9).trans rfl
  have r10:V.cell? (ak rb 10)=some r.b1:=(HR.run.get 10).trans rfl
  have r11:V.cell? (ak rb 11)=some r.b2:=(HR.run.get 11).trans rfl
  have r12:V.cell? (ak rb 12)=some r.b3:=(HR.run.get 12).trans rfl
  go_wp2_with fail
  rw[HP.out]
  have HB:=HR.ball ⟨yk,yn,ys,yA,yl,yc⟩
  refine⟨rfl,⟨yk,yn,ys,yA,yl,yc⟩,HB.1,?_,?_⟩
  ·exact HV.2.2.keep (fun b hb=>⟨hb.1,HB.2.ty hb.2 (by decide)⟩) fun b hb=>HB.2.block hb.2 (by decide)
  ·exact(TF.of_below _ HV.2.1).trans HB.2
end
section
open Go.RowKit Go.Maps
variable[Base]
section
variable {rb db ob room i:Nat} {r:RC} {u:World} {l:List (Int×List UInt8)} {spent:Int} {over:List UInt8} {cv bv:Value} {xs:List ec} {cs:List Sc} {ys:List (Nat×Int)} {t:Tm}
theorem sd (n:Nat) (nm:List UInt8) (na:Int) (C:Option Addr) (cc:Nat) (fr mk:Option Addr) (h:aT u rb r l db ob spent over) (hs:aL r.sb room u cv bv xs cs ys) (hv:cj cs) (ht:ic cs i t) (hm:t.may=true) (hsz:t.size<=2000) (hk:t.k=3\/t.k=4) (hsl:t.s.length<=maxLen) (hkd:bI t.k t.s t.args.length≠2/\bI t.k t.s t.args.length≠3/\bI t.k t.s t.args.length≠4)
 (hch:r.ch=.slice C n cc) (hfr:r.fr=.pointer fr)
 (hD:∀W,aE u W->Calls prog 165 #[ae (i:Nat),ae (n:Nat),.pointer fr] W fun e w'=>e=.returned (ah W.heap.size)/\lg w' W.heap.size 0 (i:Nat) (n:Nat) (.pointer none) (.pointer fr) (.pointer mk)/\aE W w'):
 Calls prog 170 #[ah rb,ae (i:Nat),aj,.agg #[af nm,ae na]] u fun e u'=>e=.returned (ae 0)/\∃gb,aT u' rb {r with fr:=ah gb} l db ob spent over/\lg u' gb 0 (i:Nat) (n:Nat) (.pointer none) (.pointer fr) (.pointer mk)/\TF [124] u u':=by
 refine aa fun P hP=>?_
 have HP:=ad hP
 obtain⟨sb,hsb⟩:∃sb,sb=r.sb:=⟨_,rfl⟩
 obtain⟨U,hU⟩:∃U,U=u.alloc (.cells #[af nm,ae na] 174):=⟨_,rfl⟩
 have hbU:aE u U:=by rw[hU];exact aB
 have HE:Hid (∀w,aE u w->w.cell? (ak rb 1)=some (ah sb)/\w.cell? (ak rb 7)=some (.pointer fr)/\w.cell? (ak rb 8)=some (.slice C n cc)):=ad fun w hb=>
  ⟨by rw[(h.run.later hb).get 1,hsb];rfl,by rw[(h.run.later hb).get 7,<-hfr];rfl,by rw[(h.run.later hb).get 8,<-hch];rfl⟩
 have HLK:Hid (∀W,aE u W->Calls prog 163 #[ah sb,ae (i:Nat)] W fun e w1=>∃A' n' c',e=.returned (.tuple #[.agg #[ae t.k,ae t.n,af t.s,aj],.slice A' n' c'])/\aE u w1):=ad fun W hb=>by
  obtain⟨j,c0,l0,hr,hc,e1,e9,-⟩:=jY ht hv
  have hs':=hs.later hb
  rw[<-hsb]at hs'
  refine(fo hs' hr hc (by have:=jb l0;have e3:=congrArg Tm.size e1;simp only[Tm.size]at e3;omega)).mono ?_
  rintro e w1 ⟨A',c',rfl,h1,-,h3⟩
  refine⟨A',c0.args.length,c',?_,hb.trans (h3.mono hb.size)⟩
  have e2:(di j c0).A=none/\(di j c0).len=0/\(di j c0).cap=0:=by unfold di;split<;>exact⟨rfl,rfl,rfl⟩
  rw[e1]
  unfold aU
  rw[e2.1,e2.2.1,e2.2.2]
  rfl
 have HGT:Hid (∀W,aE u W->Calls prog 173 #[ah sb,ae (i:Nat)] W fun e w1=>∃yk yn ys yA yl yc,e=.returned (.tuple #[.agg #[ae yk,ae yn,af ys,.slice yA yl yc],ae 0])/\aI w1 (fL W.heap.size w1) ⟨yk,yn,ys,yA,yl,yc⟩ t/\aE W w1/\aE u w1):=ad fun W hb=>by
  have hs':=hs.later hb
  rw[<-hsb]at hs'
  refine(pY hs' hv ht hsz).mono ?_
  rintro e w1 ⟨⟨yk,yn,ys,yA,yl,yc⟩,rfl,h1,h2⟩
  exact⟨yk,yn,ys,yA,yl,yc,rfl,h1,h2,hb.trans (h2.mono hb.size)⟩
 have hk1:(t.k==1)=false:=beq_false_of_ne (by omega)
 have hk2:(t.k==2)=false:=beq_false_of_ne (by omega)
 have HH:=ad (aD h (aD hm (aD hsz (aD hk (aD hsl (aD hkd hD))))))
 have HSB:=ad (aD hsb hfr)
 obtain⟨c1,-,-⟩:=HE.out U hbU
 have HBU:=ad hbU
 clear hP h hs hv ht hm hsz hk hsl hkd hch hfr hD hbU hsb
 go_enter func170,ntmps170
 go_upto_region 1 with fail
 rw[<-hU]
 clear hU
 go_wp2_with fail
 refine(HLK.out U HBU.out).mono ?_
 rintro e w1 ⟨A',n',c',rfl,g1⟩
 obtain⟨tb,htb⟩:∃tb,tb=w1.heap.size:=⟨_,rfl⟩
 obtain⟨W,hW⟩:∃W,W=w1.alloc (.cells #[ae t.k,ae t.n,af t.s,aj] 27):=⟨_,rfl⟩
 have HX:Hid (W.heap[tb]?=some (.cells #[ae t.k,ae t.n,af t.s,aj] 27 (0,0))/\aE u W/\u.heap.size<=tb/\tb<W.heap.size):=ad (by
  rw[hW,htb]
  exact⟨az,g1.alloc g1.size _,g1.size,by simp⟩)
 clear c1 g1
 go_upto_region 2 with fail
 rw[<-htb,<-hW]
 clear hW htb
 obtain⟨b0,b1,b2,b3,bf⟩:=aH HX.1
 have hltb:=HX.2.2.2
 obtain⟨c1,-,-⟩:=HE.out W HX.2.1
 go_upto_region 16 with fail
 go_wp2_with fail
 refine(HGT.out W HX.2.1).mono ?_
 rintro e w2 ⟨yk,yn,ys,yA,yl,yc,rfl,g1,g2,g3⟩
 have hz2:=(g2.block tb HX.2.2.2).trans HX.1
 obtain⟨V,hV⟩:∃V,V=((((w2.setCell (ak tb 0) (ae yk)).setCell (ak tb 1) (ae yn)).setCell (ak tb 2) (af ys)).setCell (ak tb 3) (.slice yA yl yc)):=⟨_,rfl⟩
 have HV:Hid (V.heap[tb]?=some (.cells #[ae yk,ae yn,af ys,.slice yA yl yc] 27 (0,0))/\aE u V/\aI V (aR V 27) ⟨yk,yn,ys,yA,yl,yc⟩ t):=ad (by
  rw[hV]
  have hne:∀b,fL W.heap.size w2 b->((((w2.setCell (ak tb 0) (ae yk)).setCell (ak tb 1) (ae yn)).setCell (ak tb 2) (af ys)).setCell (ak tb 3) (.slice yA yl yc)).heap[b]?=w2.heap[b]?:=fun b hb=>aM _ _ _ _ (by have:=HX.2.2.2;have:=hb.1;omega)
  exact⟨bc hz2 rfl _ _ _ _,(((g3.setCell (p:=(ak tb 0)) HX.2.2.1 _).setCell (p:=(ak tb 1)) HX.2.2.1 _).setCell (p:=(ak tb 2)) HX.2.2.1 _).setCell (p:=(ak tb 3)) HX.2.2.1 _,g1.keep (fun b hb=>hb.2.keep (hne b hb)) hne⟩)
 have HZ2:=ad hz2
 clear b0 b1 b2 b3 bf c1 g1 g2 g3 hltb hz2
 obtain⟨d0,d1,d2,d3,df⟩:=aH HZ2.out
 have hlt2:=(ap HZ2.out).1
 go_upto_region 17 with fail
 rw[<-hV]
 clear hV d0 d1 d2 d3 df hlt2 HZ2
 obtain⟨b0,b1,b2,b3,bf⟩:=aH HV.1
 have HBO:Hid (Calls prog 70 #[.agg #[ae yk,ae yn,af ys,.slice yA yl yc]] V fun e w3=>∃zk zn zs zA zl zc,e=.returned (.tuple #[.agg #[ae zk,ae zn,af zs,.slice zA zl zc],ae 0])/\aI w3 (aR w3 27) ⟨zk,zn,zs,zA,zl,zc⟩ t/\aE V w3):=ad (by
  have hh:yk=t.k/\ys=t.s/\yl=t.args.length:=by
   generalize hy:(⟨yk,yn,ys,yA,yl,yc⟩:TV)=y
   have hT:=HV.2.2
   rw[hy]at hT
   have hA:y.k=t.k/\y.s=t.s/\y.len=t.args.length:=by
    cases hT with
    |mk _ args xs h1 h2 h3 _ _=>exact⟨rfl,rfl,h2.symm⟩
   rw[<-hy]at hA
   exact hA
  refine(nD V (fun _=>True) ⟨yk,yn,ys,yA,yl,yc⟩ t (HV.2.2.move fun b hb=>⟨⟨hb,trivial⟩,rfl⟩) HH.2.1 HH.2.2.1 (by rw[hh.2.1];exact HH.2.2.2.2.1) (by show(yl:Int)<=_;rw[hh.2.2];have:=i8 t;have:=HH.2.2.1;omega) (by rw[hh.1];exact HH.2.2.2.1) (by rw[hh.1,hh.2.1,hh.2.2];exact HH.2.2.2.2.2.1)).mono ?_
  rintro e w3 ⟨⟨zk,zn,zs,zA,zl,zc⟩,rfl,k1,k2⟩
  exact⟨zk,zn,zs,zA,zl,zc,rfl,k1.move fun b hb=>⟨hb.1,rfl⟩,k2⟩)
 go_wp2_with fail
 refine HBO.mono ?_
 rintro e w3 ⟨zk,zn,zs,zA,zl,zc,rfl,g1,g2⟩
 obtain⟨xb,hxb⟩:∃xb,xb=w3.heap.size:=⟨_,rfl⟩
 obtain⟨W4,hW4⟩:∃W4,W4=w3.alloc (.cells #[ae zk,ae zn,af zs,.slice zA zl zc] 27):=⟨_,rfl⟩
 have hb4:aE w3 W4:=by rw[hW4];exact aB
 have hbV4:=g2.trans (hb4.mono g2.size)
 have HW4:Hid (W4.heap[xb]?=some (.cells #[ae zk,ae zn,af zs,.slice zA zl zc] 27 (0,0))/\W4.heap[tb]?=some (.cells #[ae yk,ae yn,af ys,.slice yA yl yc] 27 (0,0))/\aE u W4/\aI W4 (aR W4 27) ⟨yk,yn,ys,yA,yl,yc⟩ t/\aI W4 (aR W4 27) ⟨zk,zn,zs,zA,zl,zc⟩ t):=ad ⟨by rw[hW4,hxb];exact az,(hbV4.block tb (ap HV.1).1).trans HV.1,HV.2.1.trans (hbV4.mono HV.2.1.size),HV.2.2.move fun b hb=>⟨hb.keep (hbV4.block b hb.lt),hbV4.block b hb.lt⟩,g1.move fun b hb=>⟨hb.keep (hb4.block b hb.lt),hb4.block b hb.lt⟩⟩
 clear b0 b1 b2 b3 bf g1 g2 hb4 hbV4 HBO HV
 go_upto_region 20 with fail
 rw[<-hxb,<-hW4]
 clear hW4 hxb
 obtain⟨b0,b1,b2,b3,-⟩:=aH HW4.2.1
 obtain⟨x0,x1,x2,x3,-⟩:=aH HW4.1
 have HAG:=ad (ul W4 (ah rb) (i:Nat) ⟨yk,yn,ys,yA,yl,yc⟩ ⟨zk,zn,zs,zA,zl,zc⟩ fun w hb=>by
  refine(rN w _ _ t t (HW4.2.2.2.1.move fun b h=>⟨h.keep (hb.block b h.lt),hb.block b h.lt⟩) (HW4.2.2.2.2.move fun b h=>⟨h.keep (hb.block b h.lt),hb.block b h.lt⟩) HH.2.1 (by have:=HH.2.2.1;omega)).mono ?_
  rintro e w' ⟨c,rfl,k1,k2⟩
  rw[k1.2 rfl]
  exact⟨rfl,k2⟩)
 unfold aU at HAG
 go_wp2_with fail
 refine HAG.mono ?_
 rintro e w5 ⟨rfl,g1⟩
 have HB5:=ad (HW4.2.2.1.trans (g1.mono HW4.2.2.1.size))
 clear b0 b1 b2 b3 x0 x1 x2 x3 g1 HAG HW4 HLK HGT
 go_upto_region 27 with fail
 have HBD:=ad HB5.drew
 have HS0:=ad (HE.out _ HBD.out)
 have hlr:=HH.1.run.lt
 have HDG:Hid (Calls prog 165 #[ae (i:Nat),ae (n:Nat),.pointer fr] w5.drew fun e w6=>∃gb,e=.returned (ah gb)/\(lg w6 gb 0 (i:Nat) (n:Nat) (.pointer none) (.pointer fr) (.pointer mk)/\aE u w6)/\(w6.cell? (ak rb 1)=some (ah sb)/\w6.cell? (ak rb 7)=some (.pointer fr)/\w6.cell? (ak rb 8)=some (.slice C n cc))/\(∀o,w6.frozen? ⟨rb,o,none⟩=false)/\rb<w6.heap.size):=ad (by
  refine(HH.2.2.2.2.2.2 _ HBD.out).mono ?_
  rintro e w6 ⟨rfl,k1,k2⟩
  have k3:=HBD.trans (k2.mono HBD.size)
  exact⟨_,rfl,⟨k1,k3⟩,HE.out _ k3,(HH.1.later k3).run.fz,(HH.1.later k3).run.lt⟩)
 obtain⟨-,f7,f8⟩:=HS0.out
 go_region_with (refine HDG.mono ?_;rintro e w6 ⟨gb,rfl,k1,k2,xf,hl6⟩;have g7:=k2.2.1;have HG6:=ad k1;clear k1 k2)
 all_goals
  have HQ:Hid (P (.returned (ae 0)) (w6.setCell (ak rb 7) (ah gb))):=ad (by
   have hR6:=HH.1.later HG6.2
   have h9:=hR6.put (r':= {r with fr:=ah gb}) 7 (ah gb) rfl rfl rfl
   rw[HP.out]
   refine⟨rfl,gb,h9.1,(h9.2.block (t:=243) ⟨_,HG6.1⟩ (by decide)).trans HG6.1,(TF.of_below _ HG6.2).trans h9.2⟩)
  clear HDG HS0 HE
  go_wp2_with fail
  exact HQ.out
end
end
section
open Go.RowKit Go.Maps
variable[Base]
structure vc (u:World) (rb db ob hb fb gb room c:Nat) (r:RC) (A:Option Addr) (l:List (Int×List UInt8)) (spent:Int) (over:List UInt8) (cs:List Sc) (i1 i2 i3:Nat) (ch:Value):Prop where
 run:aT u rb {r with ch:=ch,fr:=ah gb} l db ob spent over
 chs:iU u rb ch [hb]
 cc:eI u hb A c (cs.length:Nat) [i1,i2,i3]
 fb':lg u fb 2 0 0 (ah hb) (.pointer none) (ah fb)
 gb':lg u gb 0 (i1:Nat) 1 (.pointer none) (ah fb) (ah fb)
section
variable {rb db ob room i1 i2 i3 c:Nat} {r:RC} {u:World} {l:List (Int×List UInt8)} {spent:Int} {over:List UInt8} {cv bv:Value} {xs:List ec} {cs:List Sc} {t:Tm} {A:Option Addr}
theorem xN (fv:Value) (x:TV) (h:aT u rb r l db ob spent over) (hch:r.ch=aj) (hfr:r.fr=.pointer none) (hs:aL r.sb room u cv bv xs cs []) (hA:bn u A [i1,i2,i3]) (hv:cj cs) (ht:ic cs i1 t) (hm:t.may=true) (hsz:t.size<=2000) (hk:t.k=3\/t.k=4) (hsl:t.s.length<=maxLen) (hkd:bI t.k t.s t.args.length≠2/\bI t.k t.s t.args.length≠3/\bI t.k t.s t.args.length≠4):
 Calls prog 87 #[ah rb,fv,aU x,.slice A 3 c] u fun e u'=>e=.returned (ae 0)/\(∃hb fb gb ch,vc u' rb db ob hb fb gb room c r A l spent over cs i1 i2 i3 ch)/\TF BG u u':=by
 refine aa fun P hP=>?_
 have HP:=ad hP
 obtain⟨hb,hhb⟩:∃hb,hb=u.heap.size+1:=⟨_,rfl⟩
 obtain⟨V,hV⟩:∃V,V=(u.alloc (.cells #[ae x.k,ae x.n,af x.s,.slice x.A x.len x.cap] 27)).alloc (.cells #[ae 3,ae 0,ae 0,.pointer none,ae 0,ae 0,.slice A 3 c,aj,aj,ae 0,aj,ae 0,.bool false] 246):=⟨_,rfl⟩
 have hbV:aE u V:=by rw[hV];exact aB.alloc (by simp) _
 have hCC:eI V hb A c 0 [i1,i2,i3]:=by
  refine⟨?_,hA.later hbV,?_⟩
  ·have:=heap_alloc_new (u.alloc (.cells #[ae x.k,ae x.n,af x.s,.slice x.A x.len x.cap] 27)) (.cells #[ae 3,ae 0,ae 0,.pointer none,ae 0,ae 0,.slice A 3 c,aj,aj,ae 0,aj,ae 0,.bool false] 246)
   rw[World.size_alloc]at this
   rw[hV,hhb]
   exact this
  ·have h1:=h.few.2.1
   have h2:=h.run.lt
   omega
 have HPU:=ad (AF (h.later hbV) hch hfr (hs.later hbV) hCC)
 have HTV:Hid (TF BG u V):=ad (TF.of_below _ hbV)
 have HH:=ad (aD (hs.later hbV) (aD hv (aD ht (aD hm (aD hsz (aD hk (aD hsl hkd)))))))
 clear hP h hs hA hv ht hm hsz hk hsl hkd hbV hCC
 have HFR:=ad (aD hch hfr)
 clear hch hfr
 unfold aU
 go_enter func87,ntmps87
 go_upto_region 2 with fail
 rw[<-hhb,<-hV]
 clear hV hhb
 go_wp2_with fail
 refine HPU.mono ?_
 rintro e w1 ⟨rfl,⟨ch,k1,k2⟩,k3,k4⟩
 have H1:=ad (aD k1 (aD k2 (aD k3 (aD k4 (HH.1.tf k4 (by decide))))))
 clear k1 k2 k3 k4 HPU
 have c7:w1.cell? (ak rb 7)=some (.pointer none):=(H1.1.run.get 7).trans (by show some r.fr=_;rw[HFR.2])
 go_upto_region 5 with fail
 go_wp2_with fail
 refine(Aa w1 hb).mono ?_
 rintro e w2 ⟨rfl,k1,k2⟩
 obtain⟨fb,hfb⟩:∃fb,fb=w1.heap.size:=⟨_,rfl⟩
 rw[<-hfb]at k1⊢
 have hR2:=H1.1.later k2
 have h9:=hR2.put (r':= {r with ch:=ch,fr:=ah fb}) 7 (ah fb) rfl rfl rfl
 obtain⟨X,hX⟩:∃X,X=w2.setCell (ak rb 7) (ah fb):=⟨_,rfl⟩
 rw[<-hX]at h9
 have hT2:TF [124] w1 X:=(TF.of_below _ k2).trans h9.2
 have hfX:lg X fb 2 0 0 (ah hb) (.pointer none) (ah fb):=(h9.2.block (t:=243) ⟨_,k1⟩ (by decide)).trans k1
 have HX:=ad (aD h9.1 (aD (H1.2.1.keep fun k hk=>hT2.block (H1.2.1.ty hk) (by decide)) (aD (H1.2.2.1.tf hT2 (by decide) (by decide)) (aD hfX (aD (H1.2.2.2.1.trans (hT2.mono (by decide))) (H1.2.2.2.2.tf hT2 (by decide)))))))
 have c7':w2.cell? (ak rb 7)=some (.pointer none):=(hR2.run.get 7).trans (by show some r.fr=_;rw[HFR.2])
 have cf:=hR2.run.fz
 have hl2:=hR2.run.lt
 clear k1 k2 hR2 h9 hT2 hfX c7 H1
 go_upto_region 6 with fail
 rw[<-hfb,<-hX]
 clear hX c7' cf hl2 hfb
 obtain⟨ga,off,rfl,hga,a0⟩:=HX.2.2.1.args.at' 0 i1 rfl
 rw[Nat.add_zero]at a0
 have hca:X.cell? (ak hb 6)=some (.slice (some (ak ga off)) 3 c):=HX.2.2.1.get 6
 obtain⟨A3,c3,hch3⟩:=HX.2.1.shape
 replace hch3:ch=.slice A3 1 c3:=hch3
 have HCA:=ad (sd (r:= {r with ch:=ch,fr:=ah fb}) 1 [99,97,116,99,104] 3 A3 c3 (some (ak fb 0)) (some (ak fb 0)) HX.1 HX.2.2.2.2.2 HH.2.1 HH.2.2.1 HH.2.2.2.1 HH.2.2.2.2.1 HH.2.2.2.2.2.1 HH.2.2.2.2.2.2.1 HH.2.2.2.2.2.2.2 hch3 rfl fun W hW=>rC W (i1:Nat) ((1:Nat):Int) fb 2 0 0 _ _ (some (ak fb 0)) ((hW.block fb HX.2.2.2.1.lt).trans HX.2.2.2.1))
 clear hch3 hga
 go_wp2_with fail
 refine HCA.mono ?_
 rintro e w3 ⟨rfl,gb,k1,k2,k3⟩
 have HQ:Hid (P (.returned (ae 0)) w3):=ad (by
  rw[HP.out]
  refine⟨rfl,⟨hb,fb,gb,ch,⟨k1,HX.2.1.keep fun k hk=>k3.block (HX.2.1.ty hk) (by decide),HX.2.2.1.tf k3 (by decide) (by decide),(k3.block (t:=243) ⟨_,HX.2.2.2.1⟩ (by decide)).trans HX.2.2.2.1,k2⟩⟩,HTV.trans (HX.2.2.2.2.1.trans (k3.mono (by decide)))⟩)
 clear k1 k2 k3 a0 hca
 go_wp2_with fail
 exact HQ.out
end
end
end Go.Proofs.YtigeofkllldilaaGreatDoor
