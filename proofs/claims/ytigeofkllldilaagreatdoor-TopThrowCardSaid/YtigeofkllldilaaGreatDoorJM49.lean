import Derived.Test.YtigeofkllldilaaGreatDoorJM45
import Derived.Test.YtigeofkllldilaaGreatDoorJM46
set_option maxHeartbeats 32000000
set_option maxRecDepth 100000
set_option linter.unusedSectionVars false
open Go.Proofs.Tryz
namespace Go.Proofs.YtigeofkllldilaaGreatDoor
section
open Go.RowKit Go.Maps
variable[Base]
theorem nr {u:World} {B:Nat} {nv:Value} (h:aS u B 3 1 eB nv [0,1]) (i:Nat) (hi:i<2):∃g c,nv=al g 2 c/\g<u.heap.size/\u.cell? (ak g i)=some (ae (i:Nat)):=by
 have hne:([0,1]:List Int)≠[]:=by simp
 obtain⟨g,cap,e1,-,hg,-,hc⟩:=h.cells (enc:=eB) (fun _=>rfl) hne
 refine⟨g,cap,e1,hg,?_⟩
 match i,hi with
 |0,_=>have:=(hc 0 0 rfl 0 _ rfl).1;simpa using this
 |1,_=>have:=(hc 1 1 rfl 0 _ rfl).1;simpa using this
structure D5 (u:World) (tb g:Nat) (z bi de:Int) (v:World):Prop where
 box:v.heap[tb]?=some (.cells (gz (some (ak g 0)) bi de) 184 (0,0))
 num:v.heap[g]?=some (.cells (lS z) 27 (0,0))
 below:aE u v
 ge:u.heap.size<=tb
theorem D5.new {u w:World} {g:Nat} {z bi de:Int} (hg:w.heap[g]?=some (.cells (lS z) 27 (0,0))) (hb:aE u w):D5 u w.heap.size g z bi de (w.alloc (.cells (gz (some (ak g 0)) bi de) 184)):=
 ⟨az,(aw _ _ _ (ap hg).1).trans hg,hb.alloc hb.size _,hb.size⟩
theorem D5.set {u w:World} {g n:Nat} {z bi de:Int} (hz:w.heap[u.heap.size]?=some (.cells #[ae 0,ae 0,ai,aj,ae 0,ae 0,ai,aj,ae 0,ae 0] 184 (0,0))) (hg:n<=g/\w.heap[g]?=some (.cells (lS z) 27 (0,0))) (hb:aE u w):
 D5 u u.heap.size g z bi de (w.setCells u.heap.size 0 (gz (some (ak g 0)) bi de).toList):=by
 have hf:=bX (S:=(·=u.heap.size)) (w:=w) (.inl rfl) (gz (some (ak g 0)) bi de).toList w 0 (Fr.refl _ _)
 have hk:=bO (gz (some (ak g 0)) bi de).toList w 0 _ hz
 rw[vt]at hk
 have hgX:g≠u.heap.size:=aR.ne (t:=27) ⟨_,hg.2⟩ (t':=184) ⟨_,hz⟩ (by decide)
 exact⟨hk,(hf.block _ (ap hg.2).1 hgX).trans hg.2,hb.trans (hf.below hb.size fun k hk e=>by have e:k=u.heap.size:=e;omega),aC⟩
theorem Cf {Bd dmb pb:Nat} {Ad:Option Addr} {cd:Nat} {cls:List im} {ver:Int} {ov:Value} {Bn hb c':Nat} {A':Option Addr} {nv:Value} {tried spent:Int} {over:List UInt8} {db ob:Nat} (u:World) (rb:Nat) (r:RC) (cv bv:Value) (xs:List ec) (cs:List Sc)
 (hR:bS u rb r) (hM:dF u r.mb db ob spent over) (hs:aL r.sb 40000 u cv bv xs cs []) (hp:kY cs) (hl:cs.length<=100) (hD:mL Bd db dmb pb Ad cd cls ver ov u) (hC:el Bn u hb A' c' nv tried) (i:Nat) (hi:i<2):
 Calls prog 261 #[ah rb,ah hb,ae (i:Nat)] u (FD r.sb 40000 u cs ((i+1:Nat):Int)):=by
 refine aa fun P hP=>?_
 have HP:=ad hP
 obtain⟨z,hz⟩:∃z:Int,z=((i+1:Nat):Int):=⟨_,rfl⟩
 obtain⟨gn,cn,rfl,hgn,-⟩:=nr hC.nums i hi
 obtain⟨mb,hmb⟩:∃mb,mb=r.mb:=⟨_,rfl⟩
 obtain⟨sb,hsb⟩:∃sb,sb=r.sb:=⟨_,rfl⟩
 rw[<-hmb]at hM
 rw[<-hsb]at hs
 have hE:∀w,aE u w->(w.cell? (ak rb 0)=some (ah mb)/\w.cell? (ak mb 0)=some (ah db)/\w.cell? (ak hb 8)=some (al gn 2 cn))/\w.cell? (ak hb 7)=some aj/\w.cell? (ak gn i)=some (ae (i:Nat)):=fun w hb=>by
  obtain⟨g',c2,e1,-,h2⟩:=nr (hC.later hb).nums i hi
  injection e1 with e1
  injection e1 with e1
  injection e1 with e1
  subst e1
  exact⟨⟨by rw[(hR.later hb).get 0,hmb];rfl,(hM.later hb).cells.1.1,(hC.later hb).get 8⟩,(hC.later hb).get 7,h2⟩
 have HE:=ad hE
 have HCL:Hid (∀w,aE u w->Calls prog 277 #[ah db,ae (i:Nat)] w fun e w'=>∃(g:Nat) (bi de:Int),e=.returned (.tuple #[.agg #[ae 4,ae 0,.string ⟨#[112]⟩,al g 1 1,ae 3,ae 0,.string ⟨#[116,114,117,101]⟩,aj,ae bi,ae de],ae 0])/\(w.heap.size<=g/\w'.heap[g]?=some (.cells (lS z) 27 (0,0)))/\aE w w'/\aE u w'):=ad fun w hb=>by
  refine(tt w (hD.later hb) i hi).mono ?_
  rintro e w' ⟨g,bi,de,rfl,h1,h2,h3⟩
  rw[<-hz]at h2
  exact⟨g,bi,de,rfl,⟨h1,h2⟩,h3,hb.trans (h3.mono hb.size)⟩
 have HI:=ad (aD hR (aD hs (aD hp (aD hl hC))))
 have HZ:=ad (aD hz (aD hmb hsb))
 have hng:¬(i:Int)<0:=by omega
 have hi2:(i:Int)<2:=by omega
 have hi0:(0:Int)<=(i:Int):=by omega
 have hwr:IntKind.i64.wrap ((i:Int)-0)=(i:Int):=by rw[Int.sub_zero];exact IntWalk.i64_in _ (by omega)
 have hwi:IntKind.i64.wrap (i:Int)=(i:Int):=IntWalk.i64_in _ (by omega)
 have h7:=(hE u aA).2.1
 have HB1:=ad (Below.refl u.heap.size u).drew
 have HB2:=ad ((Below.refl u.heap.size u).alloc aC (.cells #[ae 0,ae 0,ai,aj,ae 0,ae 0,ai,aj,ae 0,ae 0] 184)).drew
 have HD2:=ad (hE _ HB2.out)
 have HD:=ad (hE _ HB1.out)
 have HZ2:Hid ((u.alloc (.cells #[ae 0,ae 0,ai,aj,ae 0,ae 0,ai,aj,ae 0,ae 0] 184)).drew.heap[u.heap.size]?=some (.cells #[ae 0,ae 0,ai,aj,ae 0,ae 0,ai,aj,ae 0,ae 0] 184 (0,0))):=ad (heap_alloc_new u _)
 clear hP hE hR hM hs hp hl hD hC hz hmb hsb hgn
 go_enter func261,ntmps261
 go_upto_region 3 with fail
 have HL2:Hid (u.heap.size<(u.alloc (.cells #[ae 0,ae 0,ai,aj,ae 0,ae 0,ai,aj,ae 0,ae 0] 184)).drew.heap.size):=ad (ap HZ2.out).1
 go_cut [8,9]from 34 to 57 (fun e t v=>e=ae 0/\∃(tb g:Nat) (bi de:Int),t=ah tb/\Hid (D5 u tb g z bi de v))
 case first=>
  go_region_held3 (fun w=>(w.cell? (ak rb 0)=some (ah mb)/\w.cell? (ak mb 0)=some (ah db)/\w.cell? (ak hb 8)=some (al gn 2 cn))/\w.cell? (ak hb 7)=some aj/\w.cell? (ak gn i)=some (ae (i:Nat)))
   (first|(with_reducible exact HA4.out)|(with_reducible exact HA3.out)|(with_reducible exact HA2.out)|(with_reducible exact HA1.out)|(with_reducible exact HD2.out)|(with_reducible exact HD.out))
   (first|(go_at_call 277;with_reducible (refine(HCL.out _ HB2.out).mono ?_;rintro e w1 ⟨g,bi,de,rfl,g1,g2,g3⟩);have HZ1:=ad ((g2.block u.heap.size HL2.out).trans HZ2.out);obtain⟨x0,x1,x2,x3,x4,x5,x6,x7,x8,x9,xf⟩:=uV HZ1.out;have HA1:=ad (HE.out w1 g3);have HA4:=ad (HE.out _ ((((((((((g3.setCell (p:=(ak u.heap.size 0)) aC (ae 4)).setCell (p:=(ak u.heap.size 1)) aC (ae 0)).setCell (p:=(ak u.heap.size 2)) aC (.string ⟨#[112]⟩)).setCell (p:=(ak u.heap.size 3)) aC (al g 1 1)).setCell (p:=(ak u.heap.size 4)) aC (ae 3)).setCell (p:=(ak u.heap.size 5)) aC (ae 0)).setCell (p:=(ak u.heap.size 6)) aC (.string ⟨#[116,114,117,101]⟩)).setCell (p:=(ak u.heap.size 7)) aC aj).setCell (p:=(ak u.heap.size 8)) aC (ae bi)).setCell (p:=(ak u.heap.size 9)) aC (ae de)));have HG:=ad (aD g1 g3);clear g1 g2 g3)|(go_at_call 277;with_reducible (refine(HCL.out _ HB1.out).mono ?_;rintro e w1 ⟨g,bi,de,rfl,g1,g2,g3⟩);have HA1:=ad (HE.out w1 g3);have HA2:=ad (HE.out _ (g3.alloc g3.size (.cells #[ae 0,ae 0,ai,aj,ae 0,ae 0,ai,aj,ae 0,ae 0] 184)));have HA3:=ad (HE.out _ (g3.alloc g3.size (.cells #[ae 4,ae 0,.string ⟨#[112]⟩,al g 1 1,ae 3,ae 0,.string ⟨#[116,114,117,101]⟩,aj,ae bi,ae de] 184)));have HG:=ad (aD g1 g3);clear g1 g2 g3))
  all_goals
   go_wp2_with fail
   go_meet
   refine⟨rfl,_,g,bi,de,rfl,ad ?_⟩
   first
    |exact D5.set HZ1.out HG.1 HG.2
    |exact D5.new HG.1.2 HG.2
 case rest=>
  obtain⟨v,rfl⟩:∃v:World,v=wc:=⟨_,rfl⟩
  obtain⟨rfl,tb,g,bi,de,rfl,HF⟩:=hcut
  clear HCL HE HB1 HB2 HD HD2 HZ2 hng hi2 hi0 hwr hwi h7
  have hmk:=tF v
  obtain⟨V,hV⟩:∃V,V=v.alloc (.map #[] 0):=⟨_,rfl⟩
  obtain⟨vb,hvb⟩:∃vb,vb=v.heap.size:=⟨_,rfl⟩
  have hbv:aE v V:=by rw[hV];exact aB
  have hM6:M6 V vb []:=by rw[hV,hvb];exact M6.made v
  have hbV:aE u V:=HF.below.trans (hbv.mono HF.below.size)
  have hbx:=(hbv.block _ (ap HF.box).1).trans HF.box
  have hnu:=(hbv.block _ (ap HF.num).1).trans HF.num
  obtain⟨⟨b0,b1,b2,b3⟩,-,-,-,-⟩:=iL hbx
  obtain⟨n0,n1,n2,n3,-⟩:=aH hnu
  obtain⟨ga,off,e1,-,a0⟩:=(HI.2.2.2.2.later hbV).args.at' 0 1 rfl
  rw[Nat.add_zero]at a0
  have a6:=(HI.2.2.2.2.later hbV).get 6
  replace a6:V.cell? (ak hb 6)=some (.slice A' 1 c'):=a6
  rw[e1]at a6
  have HV:=ad (aD hbV (aD hM6 (aD hbx (aD hnu (show u.heap.size<=vb by rw[hvb];exact HF.below.size)))))
  have hbd:=(Below.refl V.heap.size V).drew
  have hbVV:aE u V:=hbV
  have HSV:Hid (∀w,aE V w->(w.cell? (ak tb 3)=some (al g 1 1)/\w.cell? (ak g 0)=some (ae 2)/\w.cell? (ak g 1)=some (ae z)/\w.cell? (ak g 2)=some ai/\w.cell? (ak g 3)=some aj)/\w.cell? (ak hb 6)=some (.slice (some (ak ga off)) 1 c')/\w.cell? (ak ga off)=some (ae 1)):=ad fun w hw=>by
   have hc:=fun(a:Addr) (x:Value) (h:V.cell? a=some x)=>(hw.cell (p:=a) (World.block_lt_of_cell? V _ h)).trans h
   exact⟨⟨hc _ _ b3,hc _ _ n0,hc _ _ n1,hc _ _ n2,hc _ _ n3⟩,hc _ _ a6,hc _ _ a0⟩
  have HSD:=ad (HSV.out _ hbd)
  have HUN:Hid (Calls prog 342 #[ah rb,.agg #[ae 2,ae z,ai,aj],ae 1] V.drew fun e w3=>e=.returned (.bool false)/\aE V w3):=ad (by
   have hs0:aL r.sb 40000 u cv bv xs cs []:=by rw[<-HZ.2.2];exact HI.2.1
   refine(tZ (HI.1.later (hbV.trans (hbd.mono hbV.size))) (hs0.later (hbV.trans (hbd.mono hbV.size))) HI.2.2.1.c1 z).mono ?_
   rintro e w3 ⟨rfl,h3⟩
   exact⟨rfl,hbd.trans h3⟩)
  clear hbV hM6 hbx hnu hbv hbd e1 HF
  go_upto_region 7 with fail
  rw[<-hV,<-hvb]
  clear hmk hV hvb
  go_upto_region 8 with fail
  go_region_held3 (fun w=>(w.cell? (ak tb 3)=some (al g 1 1)/\w.cell? (ak g 0)=some (ae 2)/\w.cell? (ak g 1)=some (ae z)/\w.cell? (ak g 2)=some ai/\w.cell? (ak g 3)=some aj)/\w.cell? (ak hb 6)=some (.slice (some (ak ga off)) 1 c')/\w.cell? (ak ga off)=some (ae 1))
   (first|(with_reducible exact HS3.out)|(with_reducible exact HSD.out))
   (first|(go_at_call 342;with_reducible refine HUN.out.mono ?_;rintro e w3 ⟨rfl,hb3⟩;have HS3:=ad (HSV.out w3 hb3);have HB3:=ad hb3;clear hb3))
  clear HUN HSV HSD HS3 b0 b1 b2 b3 n0 n1 n2 n3 a0 a6
  have hV3:=HB3.out
  have hb3:aE u w3:=HV.1.trans (hV3.mono HV.1.size)
  have hM3:=HV.2.1.later hV3
  have hx3:=(hV3.block _ (ap HV.2.2.1).1).trans HV.2.2.1
  have hn3:=(hV3.block _ (ap HV.2.2.2.1).1).trans HV.2.2.2.1
  have hs3:aL sb 40000 w3 cv bv xs cs []:=HI.2.1.later hb3
  have hd3:=(Below.refl w3.heap.size w3).drew
  have hT3:TF iw u w3.drew:=TF.of_below _ (hb3.trans (hd3.mono hb3.size))
  have HSV:Hid (∀w,w.heap[tb]?=w3.heap[tb]?->bS w rb r->w.cell? (ak rb 1)=some (ah sb)/\w.cell? (ak tb 0)=some (ae 4)/\w.cell? (ak tb 1)=some (ae 0)/\w.cell? (ak tb 2)=some (.string ⟨#[112]⟩)/\w.cell? (ak tb 3)=some (al g 1 1)):=ad fun w h1 h2=>by
   obtain⟨⟨b0,b1,b2,b3⟩,-,-,-,-⟩:=iL (h1.trans hx3)
   exact⟨by rw[h2.get 1,HZ.2.2];rfl,b0,b1,b2,b3⟩
  have HPU:Hid (Calls prog 196 #[ah sb,.agg #[ae 4,ae 0,.string ⟨#[112]⟩,al g 1 1],.map (some vb)] w3.drew fun e w4=>e=.returned (.tuple #[ae (cs.length:Nat),ae 0])/\(∃cv xs,aL sb 40000 w4 cv bv xs (dK cs z) [])/\w4.heap[tb]?=w3.heap[tb]?/\bS w4 rb r/\TF iw u w4):=ad (by
   have hp:=Al (hs3.later hd3) (hM3.later hd3) ⟨4,0,[112],some (ak g 0),1,1⟩ (lE z) (vY (W:=w3.drew) hn3) rfl (by simp[lE,dP,gm]) (show(lE z).size<=2000 by simp[lE,Tm.size,Tm.sizes]) (by have:=HI.2.2.2.1;simp[lE,Tm.size,Tm.sizes];omega)
   refine hp.mono ?_
   rintro e w4 ⟨rfl,k1,-,k3⟩
   rw[zX]at k1⊢
   obtain⟨cv4,xs4,k1⟩:=k1
   have hT4:TF iw u w4:=pK hT3 HV.2.2.2.2 k3 (fun _ h=>h)
   exact⟨rfl,⟨cv4,xs4,k1⟩,show w4.heap[tb]?=w3.drew.heap[tb]? from rH (hM3.later hd3) k3 (t:=184) ⟨_,hx3⟩ (by decide),(hT4.block HI.1.ty (by decide)).trans HI.1,hT4⟩)
  have HSD:=ad (HSV.out w3.drew rfl (HI.1.later (hb3.trans (hd3.mono hb3.size))))
  have HX3:=ad hx3
  clear hV3 hb3 hM3 hx3 hn3 hs3 hd3 hT3
  go_upto_region 10 with fail
  go_region_held3 (fun w=>w.cell? (ak rb 1)=some (ah sb)/\w.cell? (ak tb 0)=some (ae 4)/\w.cell? (ak tb 1)=some (ae 0)/\w.cell? (ak tb 2)=some (.string ⟨#[112]⟩)/\w.cell? (ak tb 3)=some (al g 1 1))
   (first|(with_reducible exact HS4.out)|(with_reducible exact HSD.out))
   (first|(go_at_call 196;with_reducible refine HPU.out.mono ?_;rintro e w4 ⟨rfl,k1,k2,k3,k4⟩;have HS4:=ad (HSV.out w4 k2 k3);have HG4:=ad (aD k1 (aD k2 k4));clear k1 k2 k3 k4))
  clear HPU HSD HS4 HSV
  obtain⟨cv4,xs4,hs4⟩:=HG4.1
  have hR4:bS w4 rb r:=(HG4.2.2.block HI.1.ty (by decide)).trans HI.1
  have hC4:=HI.2.2.2.2.tf HG4.2.2 (by decide) (by decide)
  have hd4:=(Below.refl w4.heap.size w4).drew
  have HSV:Hid (∀w,bS w rb r->el Bn w hb A' c' (al gn 2 cn) tried->w.cell? (ak rb 1)=some (ah sb)/\w.cell? (ak hb 4)=some (ae 0)):=ad fun w h1 h2=>⟨by rw[h1.get 1,HZ.2.2];rfl,h2.get 4⟩
  have HSD:=ad (HSV.out w4.drew (hR4.later hd4) (hC4.later hd4))
  have HUF:Hid (Calls prog 176 #[ah sb,ae (cs.length:Nat),ae 0] w4.drew fun e w5=>e=.returned (.tuple #[.bool true,ae 0])/\(∃cv bv xs tp,aL sb 40000 w5 cv bv xs (cD cs z) [(1,tp)])/\(bS w5 rb r/\el Bn w5 hb A' c' (al gn 2 cn) tried/\w5.heap[tb]?=w3.heap[tb]?)/\TF oD u w5):=ad (by
   refine(CZ (hs4.later hd4) HI.2.2.1).mono ?_
   rintro e w5 ⟨rfl,k1,k2⟩
   have hT:TF oD w4 w5:=(TF.of_below _ hd4).trans k2
   exact⟨rfl,k1,⟨(hT.block hR4.ty (by decide)).trans hR4,hC4.tf hT (by decide) (by decide),(hT.block (t:=184) ⟨_,HG4.2.1.trans HX3.out⟩ (by decide)).trans HG4.2.1⟩,(HG4.2.2.mono (by decide)).trans hT⟩)
  clear hs4 hR4 hC4 hd4
  go_upto_region 13 with fail
  go_region_held3 (fun w=>w.cell? (ak rb 1)=some (ah sb)/\w.cell? (ak hb 4)=some (ae 0))
   (first|(with_reducible exact HS5.out)|(with_reducible exact HSD.out))
   (first|(go_at_call 176;with_reducible refine HUF.out.mono ?_;rintro e w5 ⟨rfl,k1,k2,k3⟩;have HS5:=ad (HSV.out w5 k2.1 k2.2.1);have HG5:=ad (aD k1 (aD k2.2.2 k3));clear k1 k2 k3))
  clear HUF HSD HS5 HSV HG4
  have hx5:=HG5.2.1.trans HX3.out
  obtain⟨-,⟨b4,b5,b6,b7⟩,-,-,-⟩:=iL hx5
  clear hx5
  go_wp2_with fail
  refine(kg w5 ⟨3,0,[116,114,117,101],none,0,0⟩ (by decide) (by decide)).mono ?_
  rintro e w6 ⟨rfl,hb6⟩
  rw[show bI 3 [116,114,117,101] 0=1 by decide+kernel]
  have HQ:Hid (P (.returned (.tuple #[ae (-1),.bool true,ae 0])) w6):=ad (by
   rw[HP.out,<-HZ.1,<-HZ.2.2]
   obtain⟨⟨cv5,bv5,xs5,tp,k1⟩,-,k2⟩:=HG5.out
   exact⟨rfl,⟨cv5,bv5,xs5,tp,k1.later hb6⟩,k2.later hb6⟩)
  clear hb6 HG5 b4 b5 b6 b7
  go_wp2_with fail
  exact HQ.out
end
end Go.Proofs.YtigeofkllldilaaGreatDoor
open Go.Proofs.Tryz
namespace Go.Proofs.YtigeofkllldilaaGreatDoor
section
open Go.RowKit Go.Maps
variable[Base]
def pB:List TypeId:=[246,241,124]++oD
def Fu (rb db ob Bn hb c':Nat) (A':Option Addr) (nv:Value) (r:RC) (l:List (Int×List UInt8)) (spent:Int) (over:List UInt8) (cs:List Sc) (i:Nat) (u:World) (e:Ending) (u':World):Prop:=
 e=.returned (ae 0)/\(∃ch,aT u' rb {r with ch:=ch,fr:=.pointer none} l db ob spent over/\(if i=0 then iU u' rb ch [hb]else ch=r.ch))/\el Bn u' hb A' c' nv ((i:Int)+1)/\(∃cv bv xs tp,aL r.sb 40000 u' cv bv xs (cD cs ((i+1:Nat):Int)) [(1,tp)])/\TF pB u u'
theorem el.step {B hb c:Nat} {u:World} {A:Option Addr} {nv:Value} {tried t2:Int} (h:el B u hb A c nv tried):el B (u.setCell (ak hb 9) (ae t2)) hb A c nv t2/\TF [246] u (u.setCell (ak hb 9) (ae t2)):=by
 have hf:TF [246] u (u.setCell (ak hb 9) (ae t2)):=(TF.refl _ u).set (p:=(ak hb 9)) h.ty (by decide) h.low _
 refine⟨⟨?_,h.args.keep fun _ hb=>hf.block hb (by decide),hf.row h.nums (by decide),h.low⟩,hf⟩
 exact aK h.blk _
theorem Db {Bd dmb pb:Nat} {Ad:Option Addr} {cd:Nat} {cls:List im} {ver:Int} {ov:Value} {Bn hb c':Nat} {A':Option Addr} {nv:Value} {spent:Int} {over:List UInt8} {db ob:Nat} {l:List (Int×List UInt8)} (u:World) (rb:Nat) (r:RC) (cv bv:Value) (xs:List ec) (cs:List Sc) (i:Nat) (hi:i=0\/i=1)
 (hR:aT u rb r l db ob spent over) (hch:∃C c,r.ch=.slice C 0 c/\(i=0->C=none/\c=0)) (hs:aL r.sb 40000 u cv bv xs cs []) (hp:kY cs) (hl:cs.length<=100) (hD:mL Bd db dmb pb Ad cd cls ver ov u) (hC:el Bn u hb A' c' nv (i:Nat)):
 Calls prog 162 #[ah rb,ah hb] u (Fu rb db ob Bn hb c' A' nv r l spent over cs i u):=by
 refine aa fun P hP=>?_
 have HP:=ad hP
 obtain⟨C,cc,hch,hC0⟩:=hch
 obtain⟨gn,cn,e0,hgn,-⟩:=nr hC.nums 0 (by decide)
 have c8:u.cell? (ak rb 8)=some (.slice C 0 cc):=(hR.run.get 8).trans (by show some r.ch=_;rw[hch])
 have h7:u.cell? (ak hb 7)=some aj:=hC.get 7
 have h8:u.cell? (ak hb 8)=some (al gn 2 cn):=(hC.get 8).trans (by rw[e0];rfl)
 have HI:=ad (aD hR (aD hs (aD hp (aD hl (aD hD hC)))))
 have HC:=ad (aD hch hC0)
 clear hP hR hch hC0 hs hp hl hD hC e0 hgn
 obtain⟨i0,z0,hi0,hz0,hz1,hz2,hz3⟩:=ly
 have HIN:=ad (aD hi0 (aD hz0 (aD hz1 (aD hz2 hz3))))
 clear hi0 hz0 hz1 hz2 hz3
 go_enter func162,ntmps162
 go_upto_region 2 with fail
 go_region
 go_wp2_with fail
 go_loopw [4] (fun v wr=>v=ae 0/\Hid (aE u wr)) (fun _ _=>0)
 case atStart=>exact⟨rfl,ad aA.drew⟩
 case round=>
  obtain⟨rfl,HB⟩:=hrel
  clear c8 h7 h8
  obtain⟨j,hj⟩:∃j:Int,j=((i:Nat):Int):=⟨_,rfl⟩
  have hR0:=HI.1.later HB.out
  have hC0:=HI.2.2.2.2.2.later HB.out
  have h9:wr.cell? (ak hb 9)=some (ae j):=(hC0.get 9).trans (by rw[hj];rfl)
  have hcf:∀o,wr.frozen? ⟨hb,o,none⟩=false:=fun o=>by simp[World.frozen?,hC0.blk]
  have hlh:=hC0.lt
  obtain⟨V,hV⟩:∃V,V=wr.setCell (ak hb 9) (ae (j+1)):=⟨_,rfl⟩
  have hst:=hC0.step (t2:=j+1)
  rw[<-hV]at hst
  have HV:=ad (aD (hR0.keep hst.2 (by decide)) (aD hst.1 ((TF.of_below _ HB.out).trans hst.2)))
  have HFT:Hid (Calls prog 261 #[ah rb,ah hb,ae j] V fun e w1=>e=.returned (.tuple #[ae (-1),.bool true,ae 0])/\aT w1 rb r l db ob spent over/\el Bn w1 hb A' c' nv (j+1)/\(∃cv bv xs tp,aL r.sb 40000 w1 cv bv xs (cD cs ((i+1:Nat):Int)) [(1,tp)])/\TF pB u w1):=ad (by
   have hTV:TF pB u V:=HV.2.2.mono (by decide)
   rw[hj]
   refine(Cf V rb r cv bv xs cs HV.1.run HV.1.mach (HI.2.1.tf HV.2.2 (by decide)) HI.2.2.1 HI.2.2.2.1 (HI.2.2.2.2.1.tf HV.2.2 (by decide)) HV.2.1 i (by omega)).mono ?_
   rintro e w1 ⟨rfl,k1,k2⟩
   exact⟨rfl,HV.1.keep k2 (by decide),by rw[<-hj];exact HV.2.1.tf k2 (by decide) (by decide),k1,hTV.trans (k2.mono (by decide))⟩)
  have m0:V.cell? (ak rb 0)=some (ah r.mb):=HV.1.run.get 0
  have m5:V.cell? (ak r.mb 5)=some (ae 2000):=HV.1.mach.cells.1.2.2.2.2.2.1
  have v9:V.cell? (ak hb 9)=some (ae (j+1)):=HV.2.1.get 9
  clear hR0 hC0 hst
  have HJ:=ad hj
  have hj2:j<2:=by omega
  have hwj:IntKind.i64.wrap (j+1)=j+1:=IntWalk.i64_in _ (by omega)
  have hjc:j+1<2\/¬j+1<2:=by omega
  have HHI:=ad hi
  clear hj hi
  go_upto_region 6 with fail
  rw[<-hV]
  clear hV h9 hcf hlh
  rcases hjc with hj1|hj1
  all_goals
   go_wp2_with fail
   refine HFT.mono ?_
   rintro e w1 ⟨rfl,k1,k2,k3,k4⟩
   have H1:=ad (aD k1 (aD k2 (aD k3 k4)))
   have f9:w1.cell? (ak hb 9)=some (ae (j+1)):=k2.get 9
   clear k1 k2 k3 k4 m0 m5 v9
   go_upto_region 13 with fail
  focus
   have hi0:i=0:=by have:=HJ.out;omega
   obtain⟨rfl,rfl⟩:=HC.2 hi0
   have g8:w1.cell? (ak rb 8)=some aj:=(H1.1.run.get 8).trans (by show some r.ch=_;rw[HC.1])
   have HI0:=ad hi0
   obtain⟨hi0',hz0,hz1,hz2,hz3⟩:=HIN.out
   clear hi0
   go_wp2_with (at_builtin;refine cK rfl _ _ 118 rfl _ (rb+1) 241 i0 z0 1 8 qy underlying118 hi0' hz0 hz1 hz2 hz3 (by decide) (fun _=>rfl) qx _ [] hb rfl (aS.nil ..) _ 1 rfl (fun j w hw=>by rw[bV _ _ _ j w (by rw[<-Array.getElem?_toList];exact hw)]) (by decide) (by decide) (by have:=H1.1.run.lt;simp;omega) ?_)
   intro v' w2 hr hg
   have hT2:TF [] w1 w2:=((TF.refl _ w1).alloc _).grown hg fun g e=>by cases e
   obtain⟨A3,c3,rfl⟩:=hr.shape
   rw[show[hb].length=1 from rfl]at hr⊢
   have hR2:=H1.1.keep hT2 (fun _ _ h=>by cases h)
   obtain⟨ch,hch⟩:∃ch,ch=Value.slice A3 1 c3:=⟨_,rfl⟩
   rw[<-hch]at hr
   have h9:=hR2.put (r':= {r with ch:=ch}) 8 ch rfl rfl rfl
   obtain⟨X,hX⟩:∃X,X=w2.setCell (ak rb 8) ch:=⟨_,rfl⟩
   rw[<-hX]at h9
   have hT9:TF [124] w1 X:=(hT2.mono (by decide)).trans h9.2
   have HX:Hid (aT X rb {r with ch:=ch} l db ob spent over/\el Bn X hb A' c' nv (j+1)/\(∃cv bv xs tp,aL r.sb 40000 X cv bv xs (cD cs ((i+1:Nat):Int)) [(1,tp)])/\TF pB u X/\(if i=0 then iU X rb ch [hb]else ch=r.ch)):=ad (by
    obtain⟨cv1,bv1,xs1,tp1,k3⟩:=H1.2.2.1
    rw[if_pos HI0.out]
    exact⟨h9.1,H1.2.1.tf hT9 (by decide) (by decide),⟨cv1,bv1,xs1,tp1,k3.tf hT9 (by decide)⟩,H1.2.2.2.trans (hT9.mono (by decide)),h9.2.row hr (by decide)⟩)
   have c8:w2.cell? (ak rb 8)=some aj:=(hR2.run.get 8).trans (by show some r.ch=_;rw[HC.1])
   have cf:=hR2.run.fz
   have hl2:=hR2.run.lt
   clear hT2 hr hg hR2 h9 hT9 g8 f9 H1
   go_upto_region 15 with fail
   rw[<-hch,<-hX]
   clear hX hch c8 cf hl2
  rotate_left
  focus
   have hi1:i≠0:=by have:=HJ.out;omega
   obtain⟨X,rfl⟩:∃X,X=w1:=⟨_,rfl⟩
   obtain⟨ch,hch⟩:∃ch,ch=r.ch:=⟨_,rfl⟩
   have HX:Hid (aT X rb {r with ch:=ch} l db ob spent over/\el Bn X hb A' c' nv (j+1)/\(∃cv bv xs tp,aL r.sb 40000 X cv bv xs (cD cs ((i+1:Nat):Int)) [(1,tp)])/\TF pB u X/\(if i=0 then iU X rb ch [hb]else ch=r.ch)):=ad (by
    rw[if_neg hi1,hch]
    exact⟨H1.1,H1.2.1,H1.2.2.1,H1.2.2.2,rfl⟩)
   clear hi1 hch H1
   go_upto_region 15 with fail
   clear f9
  all_goals
   have f3:X.cell? (ak hb 3)=some (.pointer none):=HX.2.1.get 3
   have x7:X.cell? (ak rb 7)=some r.fr:=HX.1.run.get 7
   have xf:=HX.1.run.fz
   have hlx:=HX.1.run.lt
   have HQ:Hid (P (.returned (ae 0)) (X.setCell (ak rb 7) (.pointer none))):=ad (by
    obtain⟨k1,k2,⟨cv1,bv1,xs1,tp1,k3⟩,k4,k5⟩:=HX.out
    have h9:=k1.put (r':= {r with ch:=ch,fr:=.pointer none}) 7 (.pointer none) rfl rfl rfl
    rw[HP.out]
    refine⟨rfl,⟨ch,h9.1,?_⟩,by rw[<-HJ.out];exact k2.tf h9.2 (by decide) (by decide),⟨cv1,bv1,xs1,tp1,k3.tf h9.2 (by decide)⟩,k4.trans (h9.2.mono (by decide))⟩
    by_cases h0:i=0
    ·rw[if_pos h0]at k5⊢
     exact h9.2.row k5 (by decide)
    ·rw[if_neg h0]at k5⊢
     exact k5)
   clear HX
   go_wp2_with fail
   exact HQ.out
end
section
open Go.RowKit Go.Maps
variable[Base]
theorem ED:aP sB (([112]:List UInt8),(1:Int))=none:=by decide
def EC (rb db ob c:Nat) (A:Option Addr) (r:RC) (l:List (Int×List UInt8)) (spent:Int) (over:List UInt8) (u:World) (e:Ending) (u':World):Prop:=
 e=.returned (ae 0)/\∃hb Bn nv ch,aT u' rb {r with ch:=ch,fr:=.pointer none} l db ob spent over/\iU u' rb ch [hb]/\el Bn u' hb A c nv 1/\(∃cv bv xs tp,aL r.sb 40000 u' cv bv xs (cD [tN 1,sL] 1) [(1,tp)])/\TF pB u u'
theorem DJ {Bd dmb pb:Nat} {Ad:Option Addr} {cd:Nat} {cls:List im} {ver:Int} {ov:Value} {spent:Int} {over:List UInt8} {db ob:Nat} {l:List (Int×List UInt8)} (u:World) (rb fb:Nat) (r:RC) (cv bv:Value) (xs:List ec) (A:Option Addr) (c:Nat)
 (hR:aT u rb r l db ob spent over) (hfr:r.fr=.pointer none) (hch:r.ch=aj) (hs:aL r.sb 40000 u cv bv xs [tN 1,sL] []) (hB:dz u r.bb rb) (hD:mL Bd db dmb pb Ad cd cls ver ov u) (hA:bn u A [1]) (hf:ea u fb 0 0):
 Calls prog 78 #[ah rb,ah fb,.agg #[ae 4,ae 0,.string ⟨#[112]⟩,aj],.slice A 1 c] u (EC rb db ob c A r l spent over u):=by
 refine aa fun P hP=>?_
 have HP:=ad hP
 obtain⟨V,hV⟩:∃V,V=(u.alloc (.cells #[ae 4,ae 0,.string ⟨#[112]⟩,aj] 27)).alloc (.cells #[.string ⟨#[112]⟩,ae 1] 174):=⟨_,rfl⟩
 have hbV:aE u V:=by rw[hV];exact aB.alloc (by simp) _
 have hz:V.heap[u.heap.size+1]?=some (.cells #[.string ⟨#[112]⟩,ae 1] 174 (0,0)):=by
  have:=heap_alloc_new (u.alloc (.cells #[ae 4,ae 0,.string ⟨#[112]⟩,aj] 27)) (.cells #[.string ⟨#[112]⟩,ae 1] 174)
  rw[World.size_alloc]at this
  rw[hV];exact this
 obtain⟨qb,hqb⟩:∃qb,qb=u.heap.size+1:=⟨_,rfl⟩
 rw[<-hqb]at hz
 have k0:V.cell? (ak qb 0)=some (.string ⟨#[112]⟩):=(cell_of_row _ _ 0 _ _ _ hz).trans rfl
 have k1:V.cell? (ak qb 1)=some (ae 1):=(cell_of_row _ _ 1 _ _ _ hz).trans rfl
 have k2:V.cell? (ak rb 26)=some (.map (some r.bb)):=(hR.later hbV).run.get 26
 have hlk:=(hB.later hbV.drew).look [112] 1 ⟨by decide,(by decide:(-9223372036854775808:Int)<=1),(by decide:(1:Int)<=9223372036854775807)⟩
 rw[ED]at hlk
 replace hlk:(Instr.lookup 122 (.map (some r.bb)) (.agg #[.string ⟨#[112]⟩,ae 1]) true).run prog V.drew=.ok (.tuple #[.nilFunc,.bool false]) V.drew:=hlk
 obtain⟨mb,hmb⟩:∃mb,mb=r.mb:=⟨_,rfl⟩
 obtain⟨sb,hsb⟩:∃sb,sb=r.sb:=⟨_,rfl⟩
 have HSV:Hid (∀w,aE u w->w.heap[qb]?=V.heap[qb]?->(w.cell? (ak rb 0)=some (ah mb)/\w.cell? (ak rb 1)=some (ah sb)/\w.cell? (ak rb 7)=some (.pointer none)/\w.cell? (ak fb 1)=some (ae 0))/\(w.cell? (ak mb 0)=some (ah db)/\w.cell? (ak mb 2)=some (.pointer none)/\w.cell? (ak mb 6)=some (ae spent))/\w.cell? (ak qb 0)=some (.string ⟨#[112]⟩)/\w.cell? (ak qb 1)=some (ae 1)):=ad fun w hw hq=>by
  have hr:=hR.later hw
  obtain⟨⟨m0,-,m2,-,-,-,m6,-⟩,-⟩:=hr.mach.cells
  rw[<-hmb]at m0 m2 m6
  exact⟨⟨(hr.run.get 0).trans (by rw[hmb];rfl),(hr.run.get 1).trans (by rw[hsb];rfl),(hr.run.get 7).trans (by show some r.fr=_;rw[hfr]),(cell_of_row _ _ 1 _ _ _ (show w.heap[fb]?=_ from hf.later hw)).trans rfl⟩,⟨m0,m2,m6⟩,(cell_of_row _ _ 0 _ _ _ (hq.trans hz)).trans rfl,(cell_of_row _ _ 1 _ _ _ (hq.trans hz)).trans rfl⟩
 have HI:=ad (aD hR (aD hfr (aD hch (aD hs (aD hD (aD hA (show u.heap.size<qb by omega)))))))
 have HBV:=ad hbV
 have HZ:=ad hz
 have HMS:=ad (aD hmb hsb)
 obtain⟨⟨c0,c1,c7,f1⟩,⟨m0,m2,m6⟩,-,-⟩:=HSV.out V hbV rfl
 clear hR hfr hch hs hB hD hA hf hP hbV hz hmb hsb
 go_enter func78,ntmps78
 go_upto_region 2 with fail
 rw[<-hqb,<-hV]
 clear hV hqb
 go_region
 clear hlk k2
 go_wp2_with fail
 refine(vv _).mono ?_
 rintro e w1 ⟨rfl,rfl⟩
 go_wp2_with fail
 refine(vB _).mono ?_
 rintro e w1 ⟨rfl,rfl⟩
 go_wp2_with fail
 refine((HI.2.2.2.2.1.later HBV.drew).kind).mono ?_
 rintro e w1 ⟨rfl,rfl⟩
 go_upto_region 13 with fail
 go_region
 obtain⟨hb,hhb⟩:∃hb,hb=V.heap.size:=⟨_,rfl⟩
 obtain⟨X,hX⟩:∃X,X=(V.alloc (.cells #[ae 2,ae 0,ae 0,.pointer none,ae 0,ae 0,.slice A 1 c,aj,aj,ae 0,aj,ae 0,.bool false] 246)).drew.drew:=⟨_,rfl⟩
 have hbX:aE V X:=by rw[hX];exact aB.drew.drew
 have hXb:X.heap[hb]?=some (.cells (E5 A c aj 0 0 0).toArray 246 (0,0)):=by rw[hX,hhb];exact az
 have hXq:=hbX.block _ (ap HZ.out).1
 have hhu:u.heap.size<=hb:=by rw[hhb];exact HBV.size
 have huX:aE u X:=HBV.trans (hbX.mono HBV.size)
 rw[<-hhb,<-hX]
 have x1:X.cell? (ak hb 1)=some (ae 0):=(cell_of_row _ _ 1 _ _ _ hXb).trans rfl
 have x2:X.cell? (ak hb 2)=some (ae 0):=(cell_of_row _ _ 2 _ _ _ hXb).trans rfl
 have xf:∀o,X.frozen? ⟨hb,o,none⟩=false:=fun o=>by simp[World.frozen?,hXb]
 have hlX:=(ap hXb).1
 have HR1:Hid (∀w,aE u w->w.cell? (ak rb 1)=some (ah sb)):=ad fun w hw=>((HI.1.later hw).run.get 1).trans (by rw[HMS.2];rfl)
 have hs0:aL sb 40000 X.drew cv bv xs [tN 1,sL] []:=by rw[HMS.2];exact HI.2.2.2.1.later huX.drew
 have HMK:Hid (Calls prog 157 #[ah sb] X.drew fun e u'=>e=.returned (ae 0)/\u'=X.drew):=ad (uP hs0)
 have HCE:Hid (Calls prog 158 #[ah sb] X.drew fun e u'=>e=.returned (ae 2)/\u'=X.drew):=ad (ky hs0)
 have b0:=huX.drew
 have b1':=huX.setCell (p:=(ak hb 1)) hhu (ae 0)
 have b2':=huX.setCell (p:=(ak hb 2)) hhu (ae 2)
 have b1:=b1'.drew
 have b2:=b2'.drew
 have b12:=(b1'.setCell (p:=(ak hb 2)) hhu (ae 2)).drew
 have b21:=(b2'.setCell (p:=(ak hb 1)) hhu (ae 0)).drew
 have HHU:=ad hhu
 have HXX:=ad (aD hXb (aD hXq hhu))
 clear hX hhb hbX hXb hXq huX hs0 c0 c1 c7 f1 m0 m2 m6 k0 k1
 go_upto_region 14 with fail
 go_cut []from 90 to 105 (fun v=>Hid (v.heap[hb]?=some (.cells (E5 A c aj 0 2 0).toArray 246 (0,0))/\aE u v/\v.heap[qb]?=V.heap[qb]?))
 case first=>
  go_region_held3 (fun w=>w.cell? (ak rb 1)=some (ah sb))
   (first|(with_reducible exact HR1.out _ (by assumption)))
   (first|(go_at_call 157;with_reducible refine HMK.out.mono ?_;rintro e w1 ⟨rfl,rfl⟩)|(go_at_call 158;with_reducible refine HCE.out.mono ?_;rintro e w1 ⟨rfl,rfl⟩))
  all_goals
   go_wp2_with fail
   go_meet
   have hqb:qb≠hb:=aR.ne (t:=174) ⟨_,HXX.2.1.trans HZ.out⟩ (t':=246) ⟨_,HXX.1⟩ (by decide)
   first
    |exact ad ⟨aK (aK HXX.1 _) _,b12,(av _ _ _ _ hqb).trans ((av _ _ _ _ hqb).trans HXX.2.1)⟩
    |exact ad ⟨aK (aK HXX.1 _) _,b21,(av _ _ _ _ hqb).trans ((av _ _ _ _ hqb).trans HXX.2.1)⟩
 case rest=>
  obtain⟨v,rfl⟩:∃v:World,v=wc:=⟨_,rfl⟩
  have HV:=hcut
  clear hcut x1 x2 xf hlX HR1 HMK HCE b0 b1 b2 b1' b2' b12 b21 HXX
  have HS5:Hid (∀w,aE v w->w.cell? (ak rb 0)=some (ah mb)/\w.cell? (ak mb 2)=some (.pointer none)/\w.cell? (ak mb 6)=some (ae spent)/\w.cell? (ak qb 0)=some (.string ⟨#[112]⟩)/\w.cell? (ak qb 1)=some (ae 1)):=ad fun w hw=>by
   have hq:=(hw.block _ (ap (HV.2.2.trans HZ.out)).1).trans HV.2.2
   obtain⟨⟨e0,-⟩,⟨-,e2,e3⟩,e4,e5⟩:=HSV.out w (HV.2.1.trans (hw.mono HV.2.1.size)) hq
   exact⟨e0,e2,e3,e4,e5⟩
  have HEN:Hid (∀W,aE v W->Calls prog 159 #[.pointer none,ah db,ae spent,.string ⟨#[112]⟩,ae 1] W fun e w1=>e=.returned (.tuple #[.agg #[ae 0,aj,aj],.bool false])/\aE W w1/\aE v w1):=ad fun W hW=>by
   refine(wZ W _ _ [112] 1).mono ?_
   rintro e w1 ⟨rfl,h1⟩
   exact⟨rfl,h1,hW.trans (h1.mono hW.size)⟩
  have d0:=(Below.refl v.heap.size v).drew
  have d1:=((Below.refl v.heap.size v).alloc aC (.cells #[ae 0,aj,aj] 249)).drew
  have HZ1:Hid ((v.alloc (.cells #[ae 0,aj,aj] 249)).drew.heap[v.heap.size]?=some (.cells #[ae 0,aj,aj] 249 (0,0))):=ad (heap_alloc_new v _)
  have HL1:Hid (v.heap.size<(v.alloc (.cells #[ae 0,aj,aj] 249)).drew.heap.size):=ad (ap HZ1.out).1
  go_upto_region 15 with fail
  go_cut [11]from 14 to 128 (fun b v'=>b=.bool false/\Hid (aE v v'))
  case first=>
   go_region_held3 (fun w=>w.cell? (ak rb 0)=some (ah mb)/\w.cell? (ak mb 2)=some (.pointer none)/\w.cell? (ak mb 6)=some (ae spent)/\w.cell? (ak qb 0)=some (.string ⟨#[112]⟩)/\w.cell? (ak qb 1)=some (ae 1))
    (first|(with_reducible exact HS5.out _ (by assumption)))
    (first|(go_at_call 159;with_reducible refine(HEN.out _ d1).mono ?_;rintro e w1 ⟨rfl,g0,g1⟩;have z1:=(g0.block _ HL1.out).trans HZ1.out;obtain⟨y0,y1,y2,yf⟩:=km z1;have yl:=(ap z1).1;have g2:=((g1.setCell (p:=(ak v.heap.size 0)) aC (ae 0)).setCell (p:=(ak v.heap.size 1)) aC aj).setCell (p:=(ak v.heap.size 2)) aC aj)|(go_at_call 159;with_reducible refine(HEN.out _ d0).mono ?_;rintro e w1 ⟨rfl,g0,g1⟩;have g2:=g1.alloc g1.size (.cells #[ae 0,aj,aj] 249)))
   all_goals
    go_wp2_with fail
    go_meet
    exact⟨rfl,ad g2⟩
  case rest=>
   obtain⟨v2,rfl⟩:∃v:World,v=wc:=⟨_,rfl⟩
   obtain⟨rfl,HV2⟩:=hcut
   clear HEN HS5 d0 d1 HZ1 HL1 HSV
   have hv:=HV.2.1.trans (HV2.mono HV.2.1.size)
   have hbv:=(HV2.block _ (ap HV.1).1).trans HV.1
   have hqv:=(HV2.block _ (ap (HV.2.2.trans HZ.out)).1).trans HV.2.2
   have hDv:=(HI.2.2.2.2.1.later hv.drew)
   have HTI:=ad hDv.time
   have HSQ:Hid (∀w:World,w.heap[qb]?=V.heap[qb]?->w.cell? (ak qb 0)=some (.string ⟨#[112]⟩)/\w.cell? (ak qb 1)=some (ae 1)):=ad fun w h=>⟨(cell_of_row _ _ 0 _ _ _ (h.trans HZ.out)).trans rfl,(cell_of_row _ _ 1 _ _ _ (h.trans HZ.out)).trans rfl⟩
   have HAL:Hid (Calls prog 160 #[ah db,.string ⟨#[112]⟩,ae 1,ae 2] v2.drew fun e w1=>∃A3 c3,e=.returned (.slice A3 2 c3)/\(aS w1 v2.heap.size 3 1 eB (.slice A3 2 c3) [0,1]/\w1.heap[hb]?=some (.cells (E5 A c aj 0 2 0).toArray 246 (0,0))/\aE u w1)/\(w1.cell? (ak qb 0)=some (.string ⟨#[112]⟩)/\w1.cell? (ak qb 1)=some (ae 1))/\((w1.setCell (ak hb 8) (.slice A3 2 c3)).cell? (ak qb 0)=some (.string ⟨#[112]⟩)/\(w1.setCell (ak hb 8) (.slice A3 2 c3)).cell? (ak qb 1)=some (ae 1))/\w1.cell? (ak hb 8)=some aj/\(∀o,w1.frozen? ⟨hb,o,none⟩=false)/\hb<w1.heap.size):=ad (by
    refine hDv.alive.mono ?_
    rintro e w1 ⟨nv,rfl,h1,h2⟩
    obtain⟨A3,c3,rfl⟩:=h1.shape
    have k2:=(h2.block _ (ap hbv).1).trans hbv
    have k3:=(h2.block _ (ap (hqv.trans HZ.out)).1).trans hqv
    have hqh:qb≠hb:=aR.ne (t:=174) ⟨_,k3.trans HZ.out⟩ (t':=246) ⟨_,k2⟩ (by decide)
    exact⟨A3,c3,rfl,⟨h1,k2,hv.drew.trans (h2.mono hv.size)⟩,HSQ.out w1 k3,HSQ.out _ ((av _ _ _ _ hqh).trans k3),(cell_of_row _ _ 8 _ _ _ k2).trans rfl,fun o=>by simp[World.frozen?,k2],(ap k2).1⟩)
   have HA0:=ad (HSQ.out v2.drew hqv)
   clear hv hbv hqv hDv
   go_upto_region 17 with fail
   go_region_held3 (fun w=>w.cell? (ak qb 0)=some (.string ⟨#[112]⟩)/\w.cell? (ak qb 1)=some (ae 1))
    (first|(with_reducible exact HA2.out)|(with_reducible exact HA1.out)|(with_reducible exact HA0.out))
    (first|(go_at_call 161;with_reducible refine HTI.out.mono ?_;rintro e w1 ⟨rfl,rfl⟩)|(go_at_call 160;with_reducible refine HAL.out.mono ?_;rintro e w1 ⟨A3,c3,rfl,k1,k2,k3,x8,xf,xl⟩;have HA1:=ad k2;have HA2:=ad k3;have HG:=ad k1;clear k1 k2 k3))
   obtain⟨Y,hY⟩:∃Y,Y=w1.setCell (ak hb 8) (.slice A3 2 c3):=⟨_,rfl⟩
   have hbY:aE u Y:=by rw[hY];exact HG.2.2.setCell (p:=(ak hb 8)) HHU.out _
   have hCY:el v2.heap.size Y hb A c (.slice A3 2 c3) ((0:Nat):Int):=by
    refine⟨by rw[hY];exact aK HG.2.1 _,HI.2.2.2.2.2.1.later hbY,?_,Nat.le_trans (Nat.le_trans HI.1.few.2.1 (Nat.le_of_lt HI.1.run.lt)) HHU.out⟩
    rw[hY]
    exact HG.1.keep fun k hk=>av _ _ _ _ ((HG.1.ty hk).ne (t':=246) ⟨_,HG.2.1⟩ (by decide))
   rw[<-hY]
   have HTR:=ad (Db Y rb r cv bv xs [tN 1,sL] 0 (.inl rfl) (HI.1.later hbY) ⟨none,0,HI.2.2.1,fun _=>⟨rfl,rfl⟩⟩ (HI.2.2.2.1.later hbY) kY.first (by decide) (HI.2.2.2.2.1.later hbY) hCY)
   have HBY:=ad hbY
   clear hY hbY hCY HG HTI HAL HSQ HA0 HA1 HA2 x8 xf xl
   go_wp2_with fail
   refine HTR.mono ?_
   rintro e w3 ⟨rfl,⟨ch,k1,k2⟩,k3,⟨cv3,bv3,xs3,tp3,k4⟩,k5⟩
   rw[if_pos rfl]at k2
   have HQ:Hid (P (.returned (ae 0)) w3):=ad (by
    rw[HP.out]
    exact⟨rfl,hb,_,_,ch,k1,k2,k3,⟨cv3,bv3,xs3,tp3,k4⟩,(TF.of_below _ HBY.out).trans k5⟩)
   clear k1 k2 k3 k4 k5
   go_wp2_with fail
   exact HQ.out
end
section
open Go.RowKit Go.Maps
variable[Base]
theorem DD {Bd dmb pb:Nat} {Ad:Option Addr} {cd:Nat} {cls:List im} {ver:Int} {ov:Value} {Bn hb c':Nat} {A':Option Addr} {nv:Value} {spent tp z:Int} {over:List UInt8} {db ob:Nat} {l:List (Int×List UInt8)} (u:World) (rb:Nat) (r:RC) (cv bv:Value) (xs:List ec) (cs:List Sc)
 (hR:aT u rb r l db ob spent over) (hch:iU u rb r.ch [hb]) (hs:aL r.sb 40000 u cv bv xs (cD cs z) [(1,tp)]) (hp:kY cs) (hl:cs.length<=10) (hD:mL Bd db dmb pb Ad cd cls ver ov u) (hC:el Bn u hb A' c' nv 1):
 Calls prog 106 #[ah rb] u fun e u'=>e=.returned (ae 0)/\(∃C c,aT u' rb {r with ch:=.slice C 0 c,fr:=.pointer none} l db ob spent over)/\(∃cv bv xs tp,aL r.sb 40000 u' cv bv xs (cD (dK cs z) 2) [(1,tp)])/\TF pB u u':=by
 refine aa fun P hP=>?_
 have HP:=ad hP
 have hne:[hb]≠[]:=by simp
 obtain⟨g,cap,e1,-,-,-,-⟩:=hch.cells (enc:=qy) (fun _=>rfl) hne
 have c8:u.cell? (ak rb 8)=some (al g 1 cap):=(hR.run.get 8).trans (by show some r.ch=_;rw[e1];rfl)
 have HI:=ad (aD hR (aD hch (aD hs (aD hp (aD hl (aD hD hC))))))
 clear hP hR hch hs hp hl hD hC e1
 go_enter func106,ntmps106
 go_wp2_with fail
 go_loopw [2] (fun i wr=>i=ae 0/\u=wr) (fun _ _=>0)
 case atStart=>exact⟨rfl,rfl⟩
 case round=>
  obtain⟨rfl,rfl⟩:=hrel
  go_wp2_with fail
  refine(uM HI.1 HI.2.1).mono ?_
  rintro e w1 ⟨rfl,⟨C,c,k1⟩,k2⟩
  have H1:=ad (aD k1 (aD k2 (aD (HI.2.2.1.tf k2 (by decide)) (HI.2.2.2.2.2.2.tf k2 (by decide) (by decide)))))
  clear k1 k2 c8
  go_wp2_with fail
  refine(DG H1.1.run H1.2.2.1 H1.2.2.2 HI.2.2.2.1 HI.2.2.2.2.1).mono ?_
  rintro e w2 ⟨rfl,⟨cv2,bv2,xs2,k1⟩,k2⟩
  have hR2:=H1.1.keep k2 (by decide)
  have hC2:=H1.2.2.2.tf k2 (by decide) (by decide)
  have hT2:TF pB u w2:=(H1.2.1.mono (by decide)).trans (k2.mono (by decide))
  have f3:w2.cell? (ak hb 3)=some (.pointer none):=hC2.get 3
  have x7:w2.cell? (ak rb 7)=some r.fr:=hR2.run.get 7
  have xf:=hR2.run.fz
  have hl2:=hR2.run.lt
  obtain⟨X,hX⟩:∃X,X=w2.setCell (ak rb 7) (.pointer none):=⟨_,rfl⟩
  have h9:=hR2.put (r':= {r with ch:=.slice C 0 c,fr:=.pointer none}) 7 (.pointer none) rfl rfl rfl
  rw[<-hX]at h9
  have hTX:TF pB u X:=hT2.trans (h9.2.mono (by decide))
  have hCX:=hC2.tf h9.2 (by decide) (by decide)
  have f0:X.cell? (ak hb 0)=some (ae 2):=hCX.get 0
  have HTR:=ad (Db X rb {r with ch:=.slice C 0 c,fr:=.pointer none} cv2 bv2 xs2 (dK cs z) 1 (.inr rfl) h9.1 ⟨C,c,rfl,fun h=>by cases h⟩ (k1.tf h9.2 (by decide)) HI.2.2.2.1.more (by rw[iA];have:=HI.2.2.2.2.1;omega) (HI.2.2.2.2.2.1.tf hTX (by decide)) hCX)
  have HTX:=ad hTX
  clear k1 k2 hR2 hC2 hT2 h9 hTX hCX H1 HI
  go_upto_region 5 with fail
  rw[<-hX]
  clear hX f3 x7 xf hl2
  go_wp2_with fail
  refine HTR.mono ?_
  rintro e w3 ⟨rfl,⟨ch,k1,k2⟩,-,⟨cv3,bv3,xs3,tp3,k3⟩,k4⟩
  rw[if_neg (by decide)]at k2
  subst k2
  have HQ:Hid (P (.returned (ae 0)) w3):=ad (by
   rw[HP.out]
   exact⟨rfl,⟨C,c,k1⟩,⟨cv3,bv3,xs3,tp3,k3⟩,HTX.trans k4⟩)
  clear k1 k3 k4
  go_wp2_with fail
  exact HQ.out
end
section
open Go.RowKit Go.Maps
variable[Base]
abbrev iy:List Sc:=[tN 1,sL]
def yq:List (Int×List UInt8):=[]++[(1,mH 1)]
def Cp:List (Int×List UInt8):=yq++[(1,mH 2)]
def tM:List (Int×List UInt8):=Cp++[(2,[])]
def B5 (w0:World) (mb db ob:Nat) (v:Value) (w:World):Prop:=
 ∃(B:Nat) (spent:Int),aS w B 31 2 kP v tM/\dF w mb db ob spent []/\TF iN w0 w
section
variable(Bd db dmb pb:Nat) (Ad:Option Addr) (cd:Nat) (cls:List im) (ver:Int) (ov:Value) (An:Option Addr) (rb mb ob:Nat) (w0:World)
structure C5 (vb:Nat) (w:World) (r:RC) (l:List (Int×List UInt8)) (spent:Int):Prop where
 run:aT w rb r l db ob spent []
 vars:∃m,M6 w vb m/\aP m 0=some 1
 db':mL Bd db dmb pb Ad cd cls ver ov w
 nm:cO w An [([88],0)]
 tf:TF iN w0 w
def Fs (r:RC) (n:Nat) (o:Int) (w:World):Prop:=
 (n=5/\o=0/\∃fb,C5 Bd db dmb pb Ad cd cls ver ov An rb ob w0 r.vb w {r with fr:=ah fb} [] 0/\ea w fb ((0:Nat):Int) 0/\dz w r.bb rb/\∃cv bv xs,aL r.sb 40000 w cv bv xs iy [])∨
 (n=4/\o=0/\∃hb Bn A c nv ch,C5 Bd db dmb pb Ad cd cls ver ov An rb ob w0 r.vb w {r with fr:=.pointer none,loose:=0,ch:=ch} [] 1/\iU w rb ch [hb]/\el Bn w hb A c nv 1/\∃cv bv xs tp,aL r.sb 40000 w cv bv xs (cD iy 1) [(1,tp)])∨
 (n=3/\o=1/\∃hb Bn A c nv ch v,C5 Bd db dmb pb Ad cd cls ver ov An rb ob w0 r.vb w {r with fr:=.pointer none,loose:=0,ch:=ch,ev:=v,ans:=1} yq 1/\iU w rb ch [hb]/\el Bn w hb A c nv 1/\∃cv bv xs tp,aL r.sb 40000 w cv bv xs (cD iy 1) [(1,tp)])∨
 (n=2/\o=0/\∃C c v,C5 Bd db dmb pb Ad cd cls ver ov An rb ob w0 r.vb w {r with fr:=.pointer none,loose:=0,ch:=.slice C 0 c,ev:=v,ans:=1} yq 1/\∃cv bv xs tp,aL r.sb 40000 w cv bv xs (cD (dK iy 1) 2) [(1,tp)])∨
 (n=1/\o=1/\∃C c v,C5 Bd db dmb pb Ad cd cls ver ov An rb ob w0 r.vb w {r with fr:=.pointer none,loose:=0,ch:=.slice C 0 c,ev:=v,ans:=2} Cp 1)∨
 (n=0/\o=3/\∃r',bS w rb r'/\B5 w0 mb db ob r'.ev w)
end
section
variable {Bd db dmb pb:Nat} {Ad:Option Addr} {cd:Nat} {cls:List im} {ver:Int} {ov:Value} {An:Option Addr} {rb mb ob vb:Nat} {w0 w w':World} {r r':RC} {l l':List (Int×List UInt8)} {spent spent':Int}
theorem C5.next (h:C5 Bd db dmb pb Ad cd cls ver ov An rb ob w0 vb w r l spent) (hR:aT w' rb r' l' db ob spent' []) (hf:TF iN w w'):C5 Bd db dmb pb Ad cd cls ver ov An rb ob w0 vb w' r' l' spent':=by
 obtain⟨m,hm,hg⟩:=h.vars
 exact⟨hR,⟨m,⟨hf.map hm.map,hm.ok⟩,hg⟩,h.db'.tf hf (by decide),h.nm.keep fun b hb=>hf.block hb (by decide),h.tf.trans hf⟩
theorem BR {W:World} {cn:Nat} {X:TV} (hN:ig W rb mb db ob (.slice An 1 cn) 5 r) (hb:aE w0 W) (hvb:w0.heap.size<=r.vb) (hX:aI W (aR W 27) X lY) (hD:mL Bd db dmb pb Ad cd cls ver ov W) (hNm:cO W An [([88],0)]) (hdm:dmb<w0.heap.size):
 Calls prog 40 #[ah rb,aU X] W fun e w'=>e=am/\∃r',bS w' rb r'/\B5 w0 mb db ob r'.ev w':=by
 obtain⟨eX1,eX2,eX3⟩:X.k=4/\X.s=[112]/\X.len=1:=by
  generalize hg:lY=G at hX
  cases hX with
  |mk _ args xs h1 h2 h3 _ _=>
   injection hg with q1 q2 q3 q4
   exact⟨q1.symm,q3.symm,by rw[<-h2,<-q4];rfl⟩
 have hmb:=hN.mb
 refine(Cj W rb X (Fs Bd db dmb pb Ad cd cls ver ov An rb mb ob w0 r) (fun w=>∃r',bS w rb r'/\B5 w0 mb db ob r'.ev w) (fun n o w h=>?_) (fun W' hW'=>?_) (fun n w h=>?_) (fun n w h=>?_)).mono fun e w' h=>h
 ·rcases h with⟨-,rfl,-⟩|⟨-,rfl,-⟩|⟨-,rfl,-⟩|⟨-,rfl,-⟩|⟨-,rfl,-⟩|⟨-,rfl,h⟩
  ·exact .inl rfl
  ·exact .inl rfl
  ·exact .inr (.inl rfl)
  ·exact .inl rfl
  ·exact .inr (.inl rfl)
  ·exact .inr (.inr ⟨rfl,h⟩)
 ·refine(oI W' rb 40000 r [] db ob 0 [] _ _ [] [] [] X lY (hN.st.later hW') (hN.store.later hW') (hN.vars.later hW') (hX.keep (fun b hb=>hb.keep (hW'.block b hb.lt)) fun b hb=>hW'.block b hb.lt) rfl (by simp[lY,jk,dP,gm,fP]) (by simp[lY,jk,Tm.size,Tm.sizes]) (by simp[lY,jk,Tm.size,Tm.sizes]) (by rw[eX2];decide) (by rw[eX3];decide) (.inr eX1) (by rw[eX1,eX2,eX3];decide+kernel)).mono ?_
  rintro e w ⟨rfl,fb,cv,bv,xs,g1,g2,g3,⟨m,g4,g4'⟩,g5⟩
  rw[show aV lY ⟨[],[]⟩=(0,⟨iy,[(0,1)]⟩)from Bf]at g2 g3 g4'
  have hT:TF iN w0 w:=pK (TF.of_below iN (hb.trans (hW'.mono hb.size))) hvb g5 (by decide)
  have hne:∀k,(k=r.vb\/fc (124::iw) W' k)->k≠r.bb:=fun k hk=>by
   rcases hk with rfl|hk
   ·exact hN.apart
   ·exact(hN.blt.later hW').ty hk
  refine⟨5,0,rfl,.inl ⟨rfl,rfl,fb,⟨g1,⟨m,g4,by rw[g4'];rfl⟩,?_,?_,hT⟩,g2,(hN.blt.later hW').fr g5 hne,cv,bv,xs,g3⟩⟩
  ·refine(hD.later hW').keep (fun t k ht hk=>g5.block k hk.lt fun e=>?_) (g5.block _ (hD.later hW').at'.map.lt fun e=>?_)
   ·rcases e with rfl|⟨-,t',h1,h2⟩
    ·exact(hN.vars.later hW').map.ne hk rfl
    ·exact(by decide:∀t∈qq,t∉124::iw) t ht (hk.same h2▸h1)
   ·rcases e with e|⟨-,t',-,h2⟩
    ·omega
    ·exact(hD.later hW').at'.map.ne h2 rfl
  ·refine(hNm.later hW').keep fun b hb=>g5.block b hb.lt fun e=>?_
   rcases e with rfl|⟨-,t',h1,h2⟩
   ·exact(hN.vars.later hW').map.ne hb rfl
   ·exact absurd (hb.same h2▸h1) (by decide)
 ·rcases h with⟨rfl,-,fb,g1,g2,g3,cv,bv,xs,g4⟩|⟨rfl,-,hb',Bn,A,c,nv,ch,g1,g2,g3,cv,bv,xs,tp,g4⟩|⟨-,h,-⟩|⟨rfl,-,C,c,v,g1,cv,bv,xs,tp,g4⟩|⟨-,h,-⟩|⟨-,h,-⟩
  ·refine xS w rb 40000 fb 0 0 _ [] db ob 0 [] cv bv xs _ [] (tN 1) 1 _ g1.run g4 rfl g2 (.here rfl rfl) rfl rfl rfl ⟨by omega,by omega⟩ (by decide+kernel) (by decide) ⟨by omega,by omega⟩ (fun e w ⟨_,o,_,h,_⟩=>⟨o,h⟩) fun v A c' k1 k2 k3 k4=>?_
   have hT:TF iN w v:=k4.mono (by decide)
   have hB:dz v r.bb rb:=g3.fr k4.fr fun k hk=>g3.ty hk
   have hA:=g1.next k1 hT
   refine(DJ v rb fb {r with fr:=.pointer none,loose:=0} cv bv xs A c' k1 rfl hN.ch k2 hB hA.db' k3 ((k4.block (t:=243) ⟨_,g2⟩ (by decide)).trans g2)).mono ?_
   rintro e u' ⟨rfl,hb',Bn,nv,ch,j1,j2,j3,j4,j5⟩
   exact⟨4,0,by omega,rfl,.inr (.inl ⟨rfl,rfl,hb',Bn,A,c',nv,ch,hA.next j1 (j5.mono (by decide)),j2,j3,j4⟩)⟩
  ·obtain⟨m,hm1,hm2⟩:=g1.vars
   refine(mW w rb _ g1.run.run rfl (fun e w'=>∃m o,m<4/\e=.returned (ae o)/\Fs Bd db dmb pb Ad cd cls ver ov An rb mb ob w0 r m o w') (fun e w ⟨_,o,_,h,_⟩=>⟨o,h⟩) ((rB (.inl rfl) g1.run hN.nm g1.nm hm1 hm2 g4 kY.first (.inl hN.ans) hN.most (by simp)).mono ?_)).mono fun e w' h=>h
   rintro e u' ⟨rfl,v,j1,j2⟩
   have hT:TF iN w u':=j2.mono (by decide)
   have j1':=j1
   rw[show({r with fr:=.pointer none,loose:=0,ch:=ch} :RC).ans=0 from hN.ans]at j1'
   exact⟨3,1,by omega,rfl,.inr (.inr (.inl ⟨rfl,rfl,hb',Bn,A,c,nv,ch,v,g1.next j1' hT,j2.row g2 (by decide),g3.tf j2 (by decide) (by decide),cv,bv,xs,tp,g4.tf j2 (by decide)⟩))⟩
  ·cases h
  ·obtain⟨m,hm1,hm2⟩:=g1.vars
   refine(mW w rb _ g1.run.run rfl (fun e w'=>∃m o,m<2/\e=.returned (ae o)/\Fs Bd db dmb pb Ad cd cls ver ov An rb mb ob w0 r m o w') (fun e w ⟨_,o,_,h,_⟩=>⟨o,h⟩) ((rB (.inr rfl) g1.run hN.nm g1.nm hm1 hm2 g4 kY.first.more (.inr rfl) hN.most (by simp[yq])).mono ?_)).mono fun e w' h=>h
   rintro e u' ⟨rfl,v,j1,j2⟩
   exact⟨1,1,by omega,rfl,.inr (.inr (.inr (.inr (.inl ⟨rfl,rfl,C,c,v,g1.next j1 (j2.mono (by decide))⟩))))⟩
  ·cases h
  ·cases h
 ·rcases h with⟨-,h,-⟩|⟨-,h,-⟩|⟨rfl,-,hb',Bn,A,c,nv,ch,v,g1,g2,g3,cv,bv,xs,tp,g4⟩|⟨-,h,-⟩|⟨rfl,-,C,c,v,g1⟩|⟨-,h,-⟩
  ·cases h
  ·cases h
  ·refine(DD w rb _ cv bv xs iy g1.run g2 g4 kY.first (by decide) g1.db' g3).mono ?_
   rintro e u' ⟨rfl,⟨C,c,j1⟩,j2,j3⟩
   exact⟨2,0,by omega,rfl,.inr (.inr (.inr (.inl ⟨rfl,rfl,C,c,v,g1.next j1 (j3.mono (by decide)),j2⟩)))⟩
  ·cases h
  ·refine(xK w rb _ Cp db ob 1 [] C c g1.run rfl (by simp[Cp,yq])).mono ?_
   rintro e u' ⟨rfl,v',j1,j2⟩
   exact⟨0,3,by omega,rfl,.inr (.inr (.inr (.inr (.inr ⟨rfl,rfl,_,j1.run,rb+1,1,j1.ev,by rw[<-hmb];exact j1.mach,g1.tf.trans (j2.mono (by decide))⟩))))⟩
  ·cases h
end
end
end Go.Proofs.YtigeofkllldilaaGreatDoor
