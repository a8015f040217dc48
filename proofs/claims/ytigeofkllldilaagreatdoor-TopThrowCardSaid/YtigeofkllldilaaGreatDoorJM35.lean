import Derived.Test.YtigeofkllldilaaGreatDoorJM33
import Derived.Test.YtigeofkllldilaaGreatDoorJM12
set_option maxHeartbeats 32000000
set_option maxRecDepth 100000
set_option linter.unusedSectionVars false
open Go.Proofs.Tryz
namespace Go.Proofs.YtigeofkllldilaaGreatDoor
section
open Go.RowKit Go.Maps
def gz (A:Option Addr) (bi de:Int):Array Value:=#[ae 4,ae 0,.string ⟨#[112]⟩,.slice A 1 1,ae 3,ae 0,.string ⟨#[116,114,117,101]⟩,aj,ae bi,ae de]
def lS (z:Int):Array Value:=#[ae 2,ae z,ai,aj]
theorem iL {w1:World} {b:Nat} {A:Option Addr} {bi de:Int} {t:TypeId} (h:w1.heap[b]?=some (.cells (gz A bi de) t (0,0))):
 (w1.cell? (ak b 0)=some (ae 4)/\w1.cell? (ak b 1)=some (ae 0)/\w1.cell? (ak b 2)=some (.string ⟨#[112]⟩)/\w1.cell? (ak b 3)=some (.slice A 1 1))/\(w1.cell? (ak b 4)=some (ae 3)/\w1.cell? (ak b 5)=some (ae 0)/\w1.cell? (ak b 6)=some (.string ⟨#[116,114,117,101]⟩)/\w1.cell? (ak b 7)=some aj)/\w1.cell? (ak b 8)=some (ae bi)/\w1.cell? (ak b 9)=some (ae de)/\∀o,w1.frozen? ⟨b,o,none⟩=false:=by
 have hc:∀k,w1.cell? (ak b k)=(gz A bi de)[k]?:=fun k=>cell_of_row _ _ k _ _ _ h
 exact⟨⟨(hc 0).trans rfl,(hc 1).trans rfl,(hc 2).trans rfl,(hc 3).trans rfl⟩,⟨(hc 4).trans rfl,(hc 5).trans rfl,(hc 6).trans rfl,(hc 7).trans rfl⟩,(hc 8).trans rfl,(hc 9).trans rfl,fun o=>by simp[World.frozen?,h]⟩
theorem uV {w1:World} {b:Nat} {t:TypeId} (h:w1.heap[b]?=some (.cells #[ae 0,ae 0,ai,aj,ae 0,ae 0,ai,aj,ae 0,ae 0] t (0,0))):
 w1.cell? (ak b 0)=some (ae 0)/\w1.cell? (ak b 1)=some (ae 0)/\w1.cell? (ak b 2)=some ai/\w1.cell? (ak b 3)=some aj/\w1.cell? (ak b 4)=some (ae 0)/\w1.cell? (ak b 5)=some (ae 0)/\w1.cell? (ak b 6)=some ai/\w1.cell? (ak b 7)=some aj/\w1.cell? (ak b 8)=some (ae 0)/\w1.cell? (ak b 9)=some (ae 0)/\∀o,w1.frozen? ⟨b,o,none⟩=false:=by
 have hc:=fun k=>cell_of_row w1 b k _ _ _ h
 exact⟨(hc 0).trans rfl,(hc 1).trans rfl,(hc 2).trans rfl,(hc 3).trans rfl,(hc 4).trans rfl,(hc 5).trans rfl,(hc 6).trans rfl,(hc 7).trans rfl,(hc 8).trans rfl,(hc 9).trans rfl,fun o=>by simp[World.frozen?,h]⟩
theorem vt (A:Option Addr) (bi de:Int):eG #[ae 0,ae 0,ai,aj,ae 0,ae 0,ai,aj,ae 0,ae 0] 0 (gz A bi de).toList=gz A bi de:=by kernel_rfl
structure EL (w:World) (X Y:Nat) (z bi de:Int) (q:Nat) (u:World):Prop where
 bx:u.heap[X]?=some (.cells (gz (some (ak q 0)) bi de) 184 (0,0))
 bo:u.heap[Y]?=some (.cells #[ae 0,ae 0,ai,aj,ae 0,ae 0,ai,aj,ae 0,ae 0] 184 (0,0))
 num:u.heap[q]?=some (.cells (lS z) 27 (0,0))
 below:aE w u
def E9 (q:Nat):List Value:=[ae 4,ae 0,.string ⟨#[112]⟩,al q 1 1,ae 3,ae 0,.string ⟨#[116,114,117,101]⟩,aj]
theorem DS (A:Option Addr) (bi de:Int) (q:Nat):eG (gz A bi de) 0 (E9 q)=gz (some (ak q 0)) bi de:=by kernel_rfl
theorem EL.put {w V:World} {X Y q ag:Nat} {z bi de:Int} (h:EL w X Y z bi de ag V) (hq:V.heap[q]?=some (.cells (lS z) 27 (0,0))) (hXY:X≠Y) (hX:w.heap.size<=X):
 EL w X Y z bi de q (V.setCells X 0 (E9 q)):=by
 have hf:=bX (S:=(·=X)) (w:=V) (.inl rfl) (E9 q) V 0 (Fr.refl _ _)
 have hqX:q≠X:=aR.ne (t:=27) ⟨_,hq⟩ (t':=184) ⟨_,h.bx⟩ (by decide)
 have hk:=bO (E9 q) V 0 _ h.bx
 rw[DS]at hk
 exact⟨hk,(hf.block _ (ap h.bo).1 (Ne.symm hXY)).trans h.bo,(hf.block _ (ap hq).1 hqX).trans hq,h.below.trans (hf.below h.below.size fun k hk e=>by have e:k=X:=e;omega)⟩
theorem tt {B db mb pb:Nat} {A:Option Addr} {c:Nat} {cls:List im} {ver:Int} {ov:Value} (w:World) (h:mL B db mb pb A c cls ver ov w) (i:Nat) (hi:i<2):
 Calls prog 277 #[ah db,ae (i:Nat)] w fun e w'=>∃(g:Nat) (bi de:Int),e=.returned (.tuple #[.agg (gz (some (ak g 0)) bi de),ae 0])/\w.heap.size<=g/\w'.heap[g]?=some (.cells (lS ((i+1:Nat):Int)) 27 (0,0))/\aE w w':=by
 refine aa fun P hP=>?_
 have HP:=ad hP
 obtain⟨W,hW⟩:∃W,W=w.alloc (.cells #[ae 0,ae 0,ai,aj,ae 0,ae 0,ai,aj,ae 0,ae 0] 184):=⟨_,rfl⟩
 have hbW:aE w W:=by rw[hW];exact aB
 have hz:W.heap[w.heap.size]?=some (.cells #[ae 0,ae 0,ai,aj,ae 0,ae 0,ai,aj,ae 0,ae 0] 184 (0,0)):=by rw[hW];exact az
 have hD:=h.later hbW
 obtain⟨d0,d1,d2,df⟩:=hD.at'.cells
 have hdl:=hD.at'.lt
 obtain⟨cc,hcc⟩:∃cc,cls[i]?=some cc:=⟨_,au (by have:=h.len;omega)⟩
 obtain⟨g,e1,e2,e3,e4,e5,hc⟩:=sj hD.cl hcc
 have hf:=hD.facts i cc hcc
 obtain⟨f1,ag,f2,f3,f4⟩:=hf
 obtain⟨hd,bd,bi,de⟩:=cc
 simp only at f1 f2
 subst f1 f2 e1
 have k0:=(hc 0 _ rfl).1
 have k1:=(hc 1 _ rfl).1
 have k2:=(hc 2 _ rfl).1
 have k3:=(hc 3 _ rfl).1
 have k4:=(hc 4 _ rfl).1
 have k5:=(hc 5 _ rfl).1
 have k6:=(hc 6 _ rfl).1
 have k7:=(hc 7 _ rfl).1
 have k8:=(hc 8 _ rfl).1
 have k9:=(hc 9 _ rfl).1
 simp only[dX,Nat.add_zero]at k0 k1 k2 k3 k4 k5 k6 k7 k8 k9
 obtain⟨U,hU⟩:∃U,U=W.alloc (.cells #[ae 4,ae 0,.string ⟨#[112]⟩,al ag 1 1,ae 3,ae 0,.string ⟨#[116,114,117,101]⟩,aj,ae bi,ae de] 184):=⟨_,rfl⟩
 have hbU:aE W U:=by rw[hU];exact aB
 have hzU:U.heap[W.heap.size]?=some (.cells (gz (some (ak ag 0)) bi de) 184 (0,0)):=by rw[hU];exact az
 have hi2:(i:Int)<2:=by omega
 have hi0:(0:Int)<=(i:Int):=by omega
 have hzW:=(hbU.block _ (ap hz).1).trans hz
 have hag:=(hbU.block _ (ap f4).1).trans f4
 obtain⟨z,hzz⟩:∃z:Int,z=((i+1:Nat):Int):=⟨_,rfl⟩
 rw[<-hzz]at hag
 have HZZ:=ad hzz
 have hag':U.heap[ag]?=some (.cells (lS z) 27 (0,0)):=hag
 obtain⟨X,hX⟩:∃X,X=W.heap.size:=⟨_,rfl⟩
 obtain⟨Y,hY⟩:∃Y,Y=w.heap.size:=⟨_,rfl⟩
 have HOA:Hid (∀V,aE U V->Calls prog 351 #[.agg #[ae 4,ae 0,.string ⟨#[112]⟩,al ag 1 1]] V fun e w'=>∃q,e=.returned (.agg #[ae 4,ae 0,.string ⟨#[112]⟩,al q 1 1])/\(V.heap.size<=q/\w'.heap[q]?=some (.cells (lS z) 27 (0,0)))/\aE V w'/\aE U w'):=ad fun V hV=>by
  have hblk:=(hV.block _ (ap hag').1).trans hag'
  refine(vk V ⟨4,0,[112],some (ak ag 0),1,1⟩ (some (2,z,[])) ⟨(by decide:(4:Int)≠1),(by decide:([112]:List UInt8).length<=maxLen),rfl,(by decide:(2:Int)≠1),(by decide:([]:List UInt8).length<=maxLen),ag,0,none,0,rfl,(ap hblk).1,fun j v hj=>?_⟩).mono ?_
  ·rw[Nat.zero_add]
   rw[cell_of_row _ _ j _ _ _ hblk,<-hj,<-Array.getElem?_toList]
   rfl
  ·rintro e w' ⟨x',rfl,⟨q,rfl,h1,h2⟩,h3⟩
   exact⟨q,rfl,⟨h1,h2⟩,h3,hV.trans (h3.mono hV.size)⟩
 have HOB:Hid (∀V,aE U V->Calls prog 351 #[.agg #[ae 3,ae 0,.string ⟨#[116,114,117,101]⟩,aj]] V fun e w'=>e=.returned (.agg #[ae 3,ae 0,.string ⟨#[116,114,117,101]⟩,aj])/\aE V w'/\aE U w'):=ad fun V hV=>by
  refine(vk V ⟨3,0,[116,114,117,101],none,0,0⟩ none ⟨by decide,by decide,rfl⟩).mono ?_
  rintro e w' ⟨x',rfl,rfl,h3⟩
  exact⟨rfl,h3,hV.trans (h3.mono hV.size)⟩
 have hbwU:=jU hbW hbU
 have HCL:Hid (∀V,aE U V->EL w X Y z bi de ag V):=ad fun V hV=>by
  rw[hX,hY]
  exact⟨(hV.block _ (ap hzU).1).trans hzU,(hV.block _ (ap hzW).1).trans hzW,(hV.block _ (ap hag').1).trans hag',jU hbwU hV⟩
 have hlt:=(ap hz).1
 have HXY:Hid (X≠Y):=ad (by rw[hX,hY];omega)
 have HYW:Hid (Y=w.heap.size):=ad hY
 have HXW:Hid (w.heap.size<=X):=ad (by rw[hX];omega)
 have HLE:Hid (∀n,U.heap.size<=n->w.heap.size<=n):=ad fun n hn=>Nat.le_trans hbwU.size hn
 clear hP hbW hz h hD hc hcc f3 f4 e2 e4 hag hag' hzz hzW hbU hzU hi
 go_enter func277,ntmps277
 go_upto_region 1 with fail
 rw[<-hW]
 clear hW
 go_upto_region 6 with fail
 rw[<-hU,<-hX,<-hY]
 clear hU hX hY k0 k1 k2 k3 k4 k5 k6 k7 k8 k9 d0 d1 d2 df
 have hb0:=(Below.refl U.heap.size U).drew
 obtain⟨⟨u0,u1,u2,u3⟩,⟨u4,u5,u6,u7⟩,u8,u9,uf⟩:=iL (HCL.out _ hb0).bx
 go_cut []from 29 to 37 (fun v=>Hid (∃q,w.heap.size<=q/\EL w X Y z bi de q v))
 case first=>
  go_region_with (first|(go_at_call 351;with_reducible refine(HOA.out _ (by assumption)).mono ?_;rintro e wa ⟨q,rfl,gq,ha1,ha2⟩;obtain⟨⟨p0,p1,p2,p3⟩,⟨p4,p5,p6,p7⟩,p8,p9,pf⟩:=iL (HCL.out _ ha2).bx;have HA:=ad (aD gq ha1))|(go_at_call 351;with_reducible refine(HOB.out _ (by assumption)).mono ?_;rintro e wb ⟨rfl,hb1,hb2⟩;obtain⟨⟨r0,r1,r2,r3⟩,⟨r4,r5,r6,r7⟩,r8,r9,rf⟩:=iL (HCL.out _ hb2).bx))
  all_goals
   go_wp2_with fail
   go_meet
   first
    |exact ad ⟨q,HLE.out _ (Nat.le_trans hb0.size HA.1.1),(HCL.out _ hb2).put ((hb1.block q (ap HA.1.2).1).trans HA.1.2) HXY.out HXW.out⟩
    |exact ad ⟨q,HLE.out _ (Nat.le_trans hb2.size HA.1.1),(HCL.out _ ha2).put HA.1.2 HXY.out HXW.out⟩
 case rest=>
  obtain⟨v,rfl⟩:∃v:World,v=wc:=⟨_,rfl⟩
  have HC:=hcut
  clear hcut u0 u1 u2 u3 u4 u5 u6 u7 u8 u9 uf
  obtain⟨q,hq,hc⟩:=HC.out
  obtain⟨⟨u0,u1,u2,u3⟩,⟨u4,u5,u6,u7⟩,u8,u9,uf⟩:=iL hc.bx
  obtain⟨y0,y1,y2,y3,y4,y5,y6,y7,y8,y9,yf⟩:=uV hc.bo
  have hylt:=(ap hc.bo).1
  have HCC:=ad hc
  have HQ:=ad hq
  clear hc hq HC HOA HOB HCL
  go_wp2_with fail
  obtain⟨WF,hWF⟩:∃WF,WF=v.setCells Y 0 (gz (some (ak q 0)) bi de).toList:=⟨_,rfl⟩
  show bodyPost _ _ _ _ _ (v.setCells Y 0 (gz (some (ak q 0)) bi de).toList)
  rw[<-hWF]
  have hf:Fr (·=Y) v WF:=by rw[hWF];exact bX (S:=(·=Y)) (w:=v) (.inl rfl) _ v 0 (Fr.refl _ _)
  have hY:=bO (gz (some (ak q 0)) bi de).toList v 0 _ HCC.bo
  rw[<-hWF,vt]at hY
  have hqY:q≠Y:=aR.ne (t:=27) ⟨_,HCC.num⟩ (t':=184) ⟨_,HCC.bo⟩ (by decide)
  have hPF:P (.returned (.tuple #[.agg (gz (some (ak q 0)) bi de),ae 0])) WF:=by
   rw[HP.out]
   exact⟨q,bi,de,rfl,HQ.out,by rw[<-HZZ.out];exact(hf.block _ (ap HCC.num).1 hqY).trans HCC.num,HCC.below.trans (hf.below HCC.below.size fun k hk e=>by have e:k=Y:=e;have:=HYW.out;omega)⟩
  obtain⟨⟨z0,z1,z2,z3⟩,⟨z4,z5,z6,z7⟩,z8,z9,-⟩:=iL hY
  clear y0 y1 y2 y3 y4 y5 y6 y7 y8 y9 yf u0 u1 u2 u3 u4 u5 u6 u7 u8 u9 uf hWF hf hY
  exact bodyPost_ret (v:=.tuple #[.agg (gz (some (ak q 0)) bi de),ae 0]) (by simp[results,results277,go_sem,z0,z1,z2,z3,z4,z5,z6,z7,z8,z9,gz]) rfl hPF
end
end Go.Proofs.YtigeofkllldilaaGreatDoor
