import Derived.Test.YtigeofkllldilaaGreatDoorJM45
set_option maxHeartbeats 32000000
set_option maxRecDepth 100000
set_option linter.unusedSectionVars false
open Go.Proofs.Tryz
namespace Go.Proofs.YtigeofkllldilaaGreatDoor
section
open Go.RowKit Go.Maps
variable[Base]
section
variable {rb db ob:Nat} {r:RC} {u:World} {l:List (Int×List UInt8)} {spent:Int} {over:List UInt8}
theorem uM {hb:Nat} (h:aT u rb r l db ob spent over) (hc:iU u rb r.ch [hb]):
 Calls prog 201 #[ah rb] u fun e u'=>e=.returned (ah hb)/\(∃C c,aT u' rb {r with ch:=.slice C 0 c} l db ob spent over)/\TF [241,124] u u':=by
 refine aa fun P hP=>?_
 have HP:=ad hP
 have hne:[hb]≠[]:=by simp
 obtain⟨g,cap,e1,hB,hg,hcap,hcc⟩:=hc.cells (enc:=qy) (fun _=>rfl) hne
 replace hcap:1<=cap:=hcap
 have hgt:aR u 241 g:=hc.ty (by rw[e1];rfl)
 have c8:u.cell? (ak rb 8)=some (al g 1 cap):=(h.run.get 8).trans (by show some r.ch=_;rw[e1];rfl)
 have d0:u.cell? (ak g 0)=some (ah hb):=by have:=(hcc 0 hb rfl 0 _ rfl).1;simpa using this
 have df:u.frozen? ⟨g,0,none⟩=false:=by have:=(hcc 0 hb rfl 0 _ rfl).2;simpa using this
 have hgr:g≠rb:=hgt.ne h.run.ty (by decide)
 obtain⟨V,hV⟩:∃V,V=u.setCell (ak g 0) (.pointer none):=⟨_,rfl⟩
 have hTV:TF [241,124] u V:=by rw[hV];exact(TF.refl _ u).set (p:=(ak g 0)) hgt (by decide) (by have:=h.few.2.1;show Base.b<=g;omega) _
 have hRV:aT V rb r l db ob spent over:=by
  have hT2:TF [241] u V:=by rw[hV];exact(TF.refl _ u).set (p:=(ak g 0)) hgt (by decide) (by have:=h.few.2.1;show Base.b<=g;omega) _
  exact h.keep hT2 (by decide)
 have HH:=ad (aD hRV hTV)
 have hlt:=h.run.lt
 clear hP h hc hgt hTV hRV hcc hB hne
 go_enter func201,ntmps201
 go_upto_region 4 with fail
 rw[<-hV]
 clear hV c8 d0 df
 have c8:V.cell? (ak rb 8)=some (al g 1 cap):=(HH.1.run.get 8).trans (by show some r.ch=_;rw[e1];rfl)
 have cf:=HH.1.run.fz
 have hlV:=HH.1.run.lt
 have HQ:Hid (P (.returned (ah hb)) (V.setCell (ak rb 8) (al g 0 cap))):=ad (by
  rw[HP.out]
  have h9:=HH.1.put (r':= {r with ch:=al g 0 cap}) 8 (al g 0 cap) rfl rfl rfl
  exact⟨rfl,⟨_,_,h9.1⟩,HH.2.trans (h9.2.mono (by decide))⟩)
 clear e1
 go_wp2_with fail
 exact HQ.out
end
section
variable {rb Bn hb c:Nat} {A:Option Addr} {nv:Value} {tried z:Int} {r:RC} {u:World} {cv bv:Value} {xs:List ec} {cs:List Sc} {tp:Int}
theorem DG (h:bS u rb r) (hs:aL r.sb 40000 u cv bv xs (cD cs z) [(1,tp)]) (hC:el Bn u hb A c nv tried) (hp:kY cs) (hl:cs.length<=10):
 Calls prog 185 #[ah rb,ah hb] u fun e u'=>e=am/\(∃cv bv xs,aL r.sb 40000 u' cv bv xs (dK cs z) [])/\TF lr u u':=by
 refine aa fun P hP=>?_
 have HP:=ad hP
 obtain⟨sb,hsb⟩:∃sb,sb=r.sb:=⟨_,rfl⟩
 have c1:u.cell? (ak rb 1)=some (ah sb):=(h.get 1).trans (by rw[hsb];rfl)
 have h1:u.cell? (ak hb 1)=some (ae 0):=hC.get 1
 have hlt:=h.lt
 have hlh:=hC.lt
 have HSV:Hid (∀w,bS w rb r->el Bn w hb A c nv tried->w.cell? (ak rb 1)=some (ah sb)/\w.cell? (ak hb 1)=some (ae 0)/\w.cell? (ak hb 2)=some (ae 2)):=ad fun w h1 h2=>⟨(h1.get 1).trans (by rw[hsb];rfl),h2.get 1,h2.get 2⟩
 have hd:=(Below.refl u.heap.size u).drew
 have HSD:=ad (HSV.out u.drew (h.later hd) (hC.later hd))
 have HUN:Hid (Calls prog 177 #[ah sb,ae 0] u.drew fun e u'=>e=am/\(∃cv bv xs,aL sb 40000 u' cv bv xs (dK cs z) [])/\bS u' rb r/\el Bn u' hb A c nv tried/\TF lr u u'):=ad (by
  rw[hsb]
  refine(nH (hs.later hd) 0 (Nat.zero_le _)).mono ?_
  rintro e u' ⟨rfl,⟨bv',xs',k1⟩,k2⟩
  have k3:aL r.sb 40000 u' cv bv' xs' (gA (cD cs z) [1]) []:=k1
  rw[hp.undo]at k3
  have hT:TF lr u u':=(TF.of_below _ hd).trans k2
  exact⟨rfl,⟨_,_,_,k3⟩,(hT.block h.ty (by decide)).trans h,hC.tf hT (by decide) (by decide),hT⟩)
 have HI:=ad hsb
 have HL:=ad hl
 clear hP hs hp hl h hC hsb hd c1 h1
 go_enter func185,ntmps185
 go_wp2_with fail
 go_region_held3 (fun w=>w.cell? (ak rb 1)=some (ah sb)/\w.cell? (ak hb 1)=some (ae 0)/\w.cell? (ak hb 2)=some (ae 2))
  (first|(with_reducible exact HS1.out)|(with_reducible exact HSD.out))
  (first|(go_at_call 177;with_reducible refine HUN.out.mono ?_;rintro e w1 ⟨rfl,k1,k2,k3,k4⟩;have HS1:=ad (HSV.out w1 k2 k3);have HG1:=ad (aD k1 (aD k2 (aD k3 k4)));clear k1 k2 k3 k4))
 clear HUN hlt hlh HSD HS1
 obtain⟨cv1,bv1,xs1,hs1⟩:=HG1.1
 have hd1:=(Below.refl w1.heap.size w1).drew
 have HSD:=ad (HSV.out w1.drew (HG1.2.1.later hd1) (HG1.2.2.1.later hd1))
 have HCE:Hid (Calls prog 158 #[ah sb] w1.drew fun e u'=>e=.returned (ae ((cs.length+2:Nat):Int))/\u'=w1.drew):=ad (by
  have:=ky (hs1.later hd1)
  rwa[iA]at this)
 have hsub:IntKind.i64.wrap (((cs.length+2:Nat):Int)-2)=((cs.length:Nat):Int):=by rw[IntWalk.i64_in _ (by have:=HL.out;omega)];omega
 have hw0:IntKind.i64.wrap 0=0:=by decide
 have hw16:IntKind.i64.wrap 16=16:=by decide
 have hng:¬(16:Int)<((cs.length:Nat):Int):=by have:=HL.out;omega
 obtain⟨nn,hnn⟩:∃nn,nn=((cs.length+2:Nat):Int):=⟨_,rfl⟩
 rw[<-hnn]at HCE hsub
 clear hs1 hnn
 go_wp2_with fail
 go_region_held3 (fun w=>w.cell? (ak rb 1)=some (ah sb)/\w.cell? (ak hb 1)=some (ae 0)/\w.cell? (ak hb 2)=some (ae 2))
  (first|(with_reducible exact HSD.out))
  (first|(go_at_call 158;with_reducible refine HCE.out.mono ?_;rintro e w2 ⟨rfl,rfl⟩))
 have HQ:Hid (P am w1.drew):=ad (by
  rw[HP.out]
  obtain⟨⟨cv1,bv1,xs1,hs1⟩,-,-,hT⟩:=HG1.out
  exact⟨rfl,⟨_,_,_,by rw[<-HI.out];exact hs1.later hd1⟩,hT.later hd1⟩)
 clear HCE HSD HSV
 go_wp2_with fail
 exact bodyPost_end (v:=.tuple #[]) (by simp[results,results185,go_sem]) rfl HQ.out
end
end
end Go.Proofs.YtigeofkllldilaaGreatDoor
