import Derived.Test.YtigeofkllldilaaGreatDoorJM09
import Derived.Test.YtigeofkllldilaaGreatDoorJM16
set_option maxHeartbeats 32000000
set_option maxRecDepth 100000
set_option linter.unusedSectionVars false
open Go.Proofs.Tryz
namespace Go.Proofs.YtigeofkllldilaaGreatDoor
section
open Go.RowKit Go.Maps
def kE:List (Int×Nat×List UInt8):=[
 (1200,1,[58,45,32,45,45,62]),(1200,4,[58,45,32,63,45]),(1150,4,[100,121,110,97,109,105,99]),(1100,2,[59]),(1050,2,[45,62]),(1000,2,[44]),(900,5,[92,43]),
 (700,1,[61,32,92,61,32,61,61,32,92,61,61,32,64,60,32,64,62,32,64,61,60,32,64,62,61,32,61,46,46,32,105,115,32,61,58,61,32,61,92,61,32,60,32,62,32,61,60,32,62,61]),
 (500,3,[43,32,45,32,47,92,32,92,47,32,120,111,114]),(400,3,[42,32,47,32,47,47,32,114,101,109,32,109,111,100,32,100,105,118,32,60,60,32,62,62]),(200,1,[42,42]),(200,2,[94]),(200,5,[45,32,43,32,92])]
def bD (k:Nat):Int×Nat×List UInt8:=kE.getD k (0,0,[])
def gW (es:List (dh×dv)) (p:Int) (t:Nat) (names:List (List UInt8)):List (dh×dv):=names.foldl (fun es n=>cL es (jy t,n) (p,(t:Int))) es
def iO (k:Nat):List (dh×dv):=(kE.take k).foldl (fun es r=>gW es r.1 r.2.1 (Lib.fields r.2.2)) []
def dI:List (dh×dv):=iO 13
theorem rA:∀k:Nat,k<13->(1<=(bD k).1/\(bD k).1<=1200)/\(1<=(bD k).2.1/\(bD k).2.1<=7)/\(∀b∈(bD k).2.2,b.toNat<128)/\(bD k).2.2.length<=1000/\(∀n∈Lib.fields (bD k).2.2,n.length<=1000)/\(Lib.fields (bD k).2.2).length<=1000:=by
 decide+kernel
theorem tA (k:Nat) (h:k<13):iO (k+1)=gW (iO k) (bD k).1 (bD k).2.1 (Lib.fields (bD k).2.2):=by
 unfold iO
 rw[List.take_succ_eq_append_getElem (show k<kE.length from h),List.foldl_append]
 simp[bD,List.getD,au (show k<kE.length from h)]
theorem pP (es:List (dh×dv)) (p:Int) (t:Nat) (l:List (List UInt8)) (j:Nat) (h:j<l.length):
 gW es p t (l.take (j+1))=cL (gW es p t (l.take j)) (jy t,l[j]) (p,(t:Int)):=by
 unfold gW
 rw[List.take_succ_eq_append_getElem h,List.foldl_append]
 rfl
def pS (w:World) (bs:Nat):Prop:=∀k:Nat,k<13->w.cell? (ak bs (k*3))=some (ae (bD k).1)/\w.cell? (ak bs (k*3+1))=some (ae ((bD k).2.1:Int))/\w.cell? (ak bs (k*3+2))=some (.string ⟨(bD k).2.2.toArray⟩)
theorem pS.keep {w w':World} {bs:Nat} (h:pS w bs) (hb:w'.heap[bs]?=w.heap[bs]?):pS w' bs:=fun k hk=>by
 obtain⟨a,b,c⟩:=h k hk
 exact⟨(World.cell?_of_block (a:=⟨bs,k*3,none⟩) hb).trans a,(World.cell?_of_block (a:=⟨bs,k*3+1,none⟩) hb).trans b,(World.cell?_of_block (a:=⟨bs,k*3+2,none⟩) hb).trans c⟩
structure fX (w:World) (es:List (dh×dv)) (wr:World):Prop where
 tab:cm wr (w.heap.size+1) w.heap.size es
 rows:pS wr (w.heap.size+1+1)
 kinds:bR wr
 kindsLt:0<w.heap.size
 sp:Lib.TabIs prog wr "strings.asciiSpace" .u8 Lib.asciiSpaceTab
 spLt:1<w.heap.size
 below:aE w wr
 size:w.heap.size+3<=wr.heap.size
 ty:∃cs,wr.heap[w.heap.size+1]?=some (.cells cs 89 (0,0))
theorem gO {w w':World} (h:Lib.TabIs prog w "strings.asciiSpace" .u8 Lib.asciiSpaceTab) (hb:w'.heap[1]?=w.heap[1]?):Lib.TabIs prog w' "strings.asciiSpace" .u8 Lib.asciiSpaceTab:=by
 unfold Lib.TabIs World.var? at h⊢
 have hg:prog.globalNamed "strings.asciiSpace"=some 1:=by kernel_rfl
 rw[hg]at h⊢
 simp only[Option.bind_some]at h⊢
 rw[hb]
 exact h
theorem kI {w:World} (h:Lib.TabIs prog w "strings.asciiSpace" .u8 Lib.asciiSpaceTab):1<w.heap.size:=by
 unfold Lib.TabIs World.var? at h
 have hg:prog.globalNamed "strings.asciiSpace"=some 1:=by kernel_rfl
 rw[hg]at h
 simp only[Option.bind_some]at h
 rcases Nat.lt_or_ge 1 w.heap.size with hlt|hge
 ·exact hlt
 ·rw[Array.getElem?_eq_none hge]at h
  cases h
theorem fX.fr {w wr wr':World} {es es':List (dh×dv)} (h:fX w es wr) (hF:Fr (·=w.heap.size) wr wr') (ht:cm wr' (w.heap.size+1) w.heap.size es'):fX w es' wr':=by
 have hs:=h.size
 have hk:=h.kindsLt
 have hp:=h.spLt
 exact⟨ht,h.rows.keep (hF.block _ (by omega) (by omega)),h.kinds.keep (hF.block _ (by omega) (by omega)),hk,gO h.sp (hF.block _ (by omega) (by omega)),hp,
  h.below.trans (hF.below (by omega) (by omega)),by have:=hF.size;omega,h.ty.imp fun cs hc=>(hF.block _ (by omega) (by omega)).trans hc⟩
theorem fX.later {w wr wr':World} {es:List (dh×dv)} (h:fX w es wr) (hb:aE wr wr'):fX w es wr':=h.fr (.of_below _ hb) (h.tab.later hb)
structure qB (w:World) (es:List (dh×dv)) (k bv bf:Nat) (wr:World):Prop where
 inv:fX w es wr
 s0:wr.cell? (ak bv 0)=some (ae (bD k).1)
 s1:wr.cell? (ak bv 1)=some (ae ((bD k).2.1:Int))
 nm:∀j n,(Lib.fields (bD k).2.2)[j]?=some n->wr.cell? (ak bf j)=some (af n)
 bv_ge:w.heap.size+3<=bv
 bf_ge:w.heap.size+3<=bf
 bf_lt:bf<wr.heap.size
theorem qB.fr {w wr wr':World} {es es':List (dh×dv)} {k bv bf:Nat} (h:qB w es k bv bf wr) (hF:Fr (·=w.heap.size) wr wr') (ht:cm wr' (w.heap.size+1) w.heap.size es'):qB w es' k bv bf wr':=by
 have h1:=h.bv_ge
 have h2:=h.bf_ge
 have h3:=World.block_lt_of_cell? wr _ h.s0
 have h4:=h.bf_lt
 exact⟨h.inv.fr hF ht,(hF.cell (p:=(ak bv 0)) h3 (by simp only;omega)).trans h.s0,(hF.cell (p:=(ak bv 1)) h3 (by simp only;omega)).trans h.s1,
  fun j n hj=>(hF.cell (p:=(ak bf j)) h4 (by simp only;omega)).trans (h.nm j n hj),h1,h2,by have:=hF.size;omega⟩
theorem mM (w:World) (hK:bR w) (htab:Lib.TabIs prog w "strings.asciiSpace" .u8 Lib.asciiSpaceTab):
 Calls prog 18 #[] w fun e w'=>∃bt bm,e=.returned (ah bt)/\cm w' bt bm dI/\w.heap.size<=bt/\w.heap.size<=bm/\bt≠bm/\aE w w'/\∃cs,w'.heap[bt]?=some (.cells cs 89 (0,0)):=by
 have hmm:=@run_makeMap prog
 have HK:=ad hK
 have HTAB:=ad htab
 clear hK htab
 go_enter func18,ntmps18
 go_wp2
 clear hmm
 go_loopw [24] (fun i wr=>∃k:Nat,k<=13/\i=ae k/\fX w (iO k) wr) (fun i _=>13-(intOf i).toNat)
 case atStart=>
  refine⟨0,by omega,rfl,?_⟩
  have hK:=HK.out
  have htab:=HTAB.out
  have hk0:=hK.lt
  have hs0:=kI htab
  refine⟨⟨by simp[World.cell?_alloc_past,World.cell?_alloc_at],?_,by simp[iO]⟩,?_,?_,hk0,?_,hs0,?_,by simp,⟨_,by rw[aw _ _ _ (by simp)];have:=heap_alloc_new (w.alloc (.map #[] 0)) (.cells #[.map (some w.heap.size)] 89);rwa[World.size_alloc]at this⟩⟩
  ·exact(((aW.made w).alloc _).alloc _)
  ·intro k hk
   have:k=0\/k=1\/k=2\/k=3\/k=4\/k=5\/k=6\/k=7\/k=8\/k=9\/k=10\/k=11\/k=12:=by omega
   rcases this with rfl|rfl|rfl|rfl|rfl|rfl|rfl|rfl|rfl|rfl|rfl|rfl|rfl<;>
    exact⟨by rw[World.cell?_alloc_at _ _ _ _ (by simp)];rfl,by rw[World.cell?_alloc_at _ _ _ _ (by simp)];rfl,by rw[World.cell?_alloc_at _ _ _ _ (by simp)];rfl⟩
  ·exact hK.later ((aB.alloc (by simp) _).alloc (by simp;omega) _)
  ·exact gO htab (((aB.alloc (by simp) _).alloc (by simp;omega) _).block _ hs0)
  ·exact(aB.alloc (by simp) _).alloc (by simp;omega) _
 case round=>
  obtain⟨k,hk,rfl,hI⟩:=hrel
  by_cases hlt:k<13
  ·obtain⟨c0,c1,c2⟩:=hI.rows k hlt
   have hlt':(k:Int)<13:=by omega
   have HI:=ad hI
   clear hI
   go_wp2_with fail
   have hI1:fX w (iO k) (wr.alloc (.cells #[ae (bD k).1,ae ((bD k).2.1:Int),.string ⟨(bD k).2.2.toArray⟩] 91)):=HI.later aB
   obtain⟨⟨p1,p2⟩,⟨t1,t2⟩,ha,hl,hn,hnl⟩:=rA k hlt
   refine(Tryz.strings_Fields _ _ (by simp only[ByteArray.size,List.size_toArray];omega) (by intro j b hb;exact ha b (List.mem_of_getElem? hb)) hI1.sp).mono ?_
   rintro e w1 ⟨rfl,rfl⟩
   go_wp2
   obtain⟨wo,rfl⟩:∃wo:World,wo=wr:=⟨_,rfl⟩
   have hz:=HI.size
   have hin:qB w (iO k) k wo.heap.size (wo.heap.size+1) ((wo.alloc (.cells #[ae (bD k).1,ae ((bD k).2.1:Int),.string ⟨(bD k).2.2.toArray⟩] 91)).alloc
    (.cells ((Lib.fields (bD k).2.2).map fun l=>af l).toArray 9)):=by
    refine⟨hI1.later aB,?_,?_,?_,by omega,by omega,by simp⟩
    ·rw[World.cell?_alloc_past _ _ _ (by simp),World.cell?_alloc_at _ _ _ _ rfl];rfl
    ·rw[World.cell?_alloc_past _ _ _ (by simp),World.cell?_alloc_at _ _ _ _ rfl];rfl
    ·intro j n hj
     rw[World.cell?_alloc_at _ _ _ _ (by simp)]
     simp[hj]
   have HIN:=ad hin
   clear hin hI1
   go_loopw [32] (fun v wi=>∃j:Nat,j<=(Lib.fields (bD k).2.2).length/\v=ae j/\qB w (gW (iO k) (bD k).1 (bD k).2.1 ((Lib.fields (bD k).2.2).take j)) k wo.heap.size (wo.heap.size+1) wi) (fun v _=>1000-(intOf v).toNat)
   case atStart=>exact⟨0,Nat.zero_le _,rfl,HIN.out⟩
   case round=>
    obtain⟨j,hj,rfl,hJ⟩:=hrel
    by_cases hjl:j<(Lib.fields (bD k).2.2).length
    ·have hnj:=hJ.nm j _ (au hjl)
     obtain⟨k0,-,-⟩:=hJ.inv.kinds (bD k).2.1 t2
     have hc:=hJ.inv.tab.cell
     have hs0:=hJ.s0
     have hs1:=hJ.s1
     have hgood:=hJ.inv.tab.good
     have h8:((bD k).2.1:Int)<8:=by omega
     have h0:=hJ.inv.kinds.lt
     obtain⟨w9,hup,hM,hG,-⟩:=aW.update (P:=prog) (t:=87) EH underlying87 hJ.inv.tab.map.drew hJ.inv.tab.ok (k:=(jy (bD k).2.1,(Lib.fields (bD k).2.2)[j])) ⟨by have:=qN (bD k).2.1;simp only;omega,by have:=hn _ (List.getElem_mem hjl);unfold maxLen;simp only;omega⟩ (((bD k).1,((bD k).2.1:Int)):dv)
     rw[show sN (jy (bD k).2.1,(Lib.fields (bD k).2.2)[j])=.agg #[ae (jy (bD k).2.1),af ((Lib.fields (bD k).2.2)[j])]from rfl,show Dl ((bD k).1,((bD k).2.1:Int))=.agg #[ae (bD k).1,ae ((bD k).2.1:Int)]from rfl]at hup
     have hF:Fr (·=w.heap.size) wr w9:=((Fr.refl _ _).drew).grown hG (fun g hg=>.inl (Option.some.inj hg).symm)
     have hT9:cm w9 (w.heap.size+1) w.heap.size (gW (iO k) (bD k).1 (bD k).2.1 ((Lib.fields (bD k).2.2).take (j+1))):=by
      rw[pP _ _ _ _ _ hjl]
      refine hJ.inv.tab.changed hF (by omega) hM ?_
      intro x hx
      rcases ze hx with hx|rfl
      ·exact hgood x hx
      ·exact⟨rfl,hn _ (List.getElem_mem hjl),p1,p2,by simp only;omega,by simp only;omega⟩
     have HJ9:=ad (hJ.fr hF hT9)
     have hjl':(j:Int)<((Lib.fields (bD k).2.2).length:Int):=by omega
     have hlen:(Lib.fields (bD k).2.2).length<=1000:=hnl
     clear hJ hgood hM hG hF hT9 hn hnl HIN HI
     go_wp2
     go_region
     go_wp2
     go_roundw
     case rel=>exact⟨j+1,hjl,by go_num,HJ9.out⟩
     case measure=>simp[intOf];omega
    ·have hjl':¬(j:Int)<((Lib.fields (bD k).2.2).length:Int):=by omega
     have hfin:fX w (iO (k+1)) wr:=by
      rw[tA k hlt]
      have:=hJ.inv
      rw[List.take_of_length_le (by omega)]at this
      exact this
     have HF:=ad hfin
     clear hJ hfin hn HIN HI
     go_wp2
     go_roundw
     case rel=>exact⟨k+1,hlt,by go_num,HF.out⟩
     case measure=>simp[intOf];omega
  ·have hk13:k=13:=by omega
   subst hk13
   have HI:=ad hI
   clear hI
   go_wp2
   go_ret
   exact⟨_,_,rfl,HI.tab,by omega,by omega,by omega,HI.below,HI.ty⟩
theorem py (w:World) (hK:bR w) (htab:Lib.TabIs prog w "strings.asciiSpace" .u8 Lib.asciiSpaceTab):
 Calls prog 18 #[] w fun e w'=>∃bt bm,e=.returned (ah bt)/\cm w' bt bm dI/\w.heap.size<=bt/\w.heap.size<=bm/\bt≠bm/\aE w w':=
 (mM w hK htab).mono fun _ _ ⟨bt,bm,h1,h2,h3,h4,h5,h6,_⟩=>⟨bt,bm,h1,h2,h3,h4,h5,h6⟩
attribute [irreducible] dI
theorem vG (u:World) (rb:Nat) (v:jr) (ts:List dq) (s:cI) (B:Nat) (h:bU u rb v ts s B) (l:List ru) (hrow:ej u rb v.wv l) (hl:l.length<=100000) (t:dq) (hk:t.kind=1) (hst:t.s=[112]) (ho:t.opn=true) (hp:kK ts (s.at'+1) 40=true):
 Calls prog 59 #[ah rb,jm t] u fun e u'=>e=am/\∃wv',bU u' rb {v with wv:=wv'} ts (((s.go 1).go 1).await ⟨2,0,[112],0,[]⟩ 999) B/\ej u' rb wv' (l++[⟨2,s.most,[112],0,none,0,0⟩])/\Fr (fun k=>k=rb\/v.wv.ownBlock=some k) u u':=by
 refine aa fun P hP=>?_
 have HP:=ad hP
 have hf:=h.few
 have hat:=AD hp
 have hwr:IntKind.i64.wrap ((s.at':Int)+1)=(s.at':Int)+1:=IntWalk.i64_in _ (by omega)
 have HA:=ad h
 have HR:=ad hrow
 have HPP:=ad (aD hp hl)
 have HAT:=ad hat
 obtain⟨k,ln,n,st,op,ti⟩:=t
 simp only at hk hst ho
 subst hk hst ho
 have ha:aE u (u.alloc (.cells #[ae 1,ae ln,ae n,.string ⟨#[112]⟩,.bool true,.bool ti] 139)):=aB
 have HW:=ad ha
 have HA0:=ad (HA.later ha)
 clear ha h hrow hl hp hP hat hf
 simp only[jm]
 go_enter func59,ntmps59
 go_wp2_with fail
 refine(iE _ rb v ts s B HA0.out 1 (by omega)).mono ?_
 rintro e w1 ⟨rfl,hb1⟩
 obtain⟨k2,ln2,n2,st2,op2,ti2⟩:=bg ts (s.at'+1)
 simp only[jm]
 have HB1:=ad (sC HW.out hb1)
 obtain⟨n0,n1,n2',n3,n4,n5,nf⟩:=iT (w1:=w1) (b:=u.heap.size) ((hb1.block u.heap.size (by simp)).trans (heap_alloc_new u _))
 have HA1:=ad (HA.later HB1.out)
 have HR1:Hid (ej w1 rb v.wv l):=ad (HR.later HB1.out)
 have c1:w1.cell? (ak rb 1)=some (ae (s.at':Int)):=HA1.blk.cell (i:=1) rfl
 have cf:=HA1.blk.free
 have hrl:=HA1.blk.lt
 have hul:u.heap.size<w1.heap.size:=World.block_lt_of_cell? w1 _ n0
 obtain⟨X,hX⟩:∃X,X=(w1.setCell (ak rb 1) (ae ((s.at':Int)+1))).alloc (.cells #[ae k2,ae ln2,ae n2,af st2,.bool op2,.bool ti2] 139):=⟨_,rfl⟩
 have hbz:∀(w:World) (o:Obj),aE w (w.alloc o):=fun w o=>aB
 have HX:Hid (bU X rb v ts (s.go 1) B/\ej X rb v.wv l/\Fr (·=rb) u X/\X.heap[u.heap.size]?=some (.cells #[ae 1,ae ln,ae n,.string ⟨#[112]⟩,.bool true,.bool ti] 139 (0,0))):=ad (by
  rw[hX]
  refine⟨(HA1.put (v':=v) (s':=s.go 1) 1 _ (by simp[bT,cI.go]) rfl rfl (by show s.at'+1<=_;have:=HAT.out;omega)).later (hbz _ _),aS.later (ej.put HR1.out 1 _) (hbz _ _),((Fr.of_below (·=rb) HB1.out).setCell (p:=(ak rb 1)) (.inl rfl) _).step (hbz _ _),?_⟩
  rw[aw _ _ _ (show u.heap.size<(w1.setCell (ak rb 1) (ae ((s.at':Int)+1))).heap.size by rw[World.size_setCell];exact hul),av _ _ _ _ (show u.heap.size≠rb by have:=HA.blk.lt;omega)]
  exact(hb1.block u.heap.size (by simp)).trans (heap_alloc_new u _))
 clear hb1 hbz
 go_upto_region 6 with fail
 rw[<-hX]
 clear hX c1 cf hrl hul n0 n1 n2' n3 n4 n5 nf hwr
 obtain⟨n0,n1,n2',n3,n4,n5,nf⟩:=iT HX.2.2.2
 go_wp2_with fail
 refine(oa X rb v ts (s.go 1) B HX.1 l HX.2.1 HPP.2 [112]).mono ?_
 rintro e w2 ⟨hF,h2⟩
 rw[if_pos (show kK ts (s.go 1).at' 40=true from HPP.1)]at h2
 obtain⟨rfl,wv',r1,r2⟩:=h2
 have HQ:Hid (P am w2):=ad (by
  rw[HP.out]
  exact⟨rfl,wv',r1,r2,(HX.2.2.1.weak fun k hk=>.inl hk).trans hF⟩)
 clear hF r1 r2
 go_wp2_with fail
 exact bodyPost_end (v:=.tuple #[]) (by simp[results,results59,go_sem]) rfl HQ.out
theorem jN (F:Nat) (u:World) (rb bb:Nat) (v:jr) (ts:List dq) (s:cI) (B:Nat) (Q:Ending->World->Prop) (h:bU u rb v ts s B) (hbv:v.bv=.map (some bb)) (hbeg:aW u bb kp (ww rb) kQ) (hkd:pi (bg ts s.at').kind) (hm:aP kQ (bg ts s.at').kind=some F) (hF:F=55\/F=56\/F=59)
 (hQ:∀e w,Q e w->e=am) (hc:∀W,aE u W->Calls prog F #[ah rb,jm (bg ts s.at')] W Q):
 Calls prog 131 #[ah rb] u Q:=by
 have HA:=ad h
 have HG:=ad hbeg
 have HC:=ad hc
 have HQ:=ad hQ
 clear h hbeg hc hQ
 obtain⟨p1,hp1⟩:∃p,p=bg ts s.at':=⟨_,rfl⟩
 have HPE:=ad hp1
 rw[<-hp1]at hkd hm HC
 clear hp1
 obtain⟨k,ln,n,st,op,ti⟩:=p1
 simp only at hkd hm
 go_enter func131,ntmps131
 go_wp2_with fail
 refine(iE _ rb v ts s B HA.out 0 (by omega)).mono ?_
 rintro e w1 ⟨rfl,hb1⟩
 rw[show s.at'+0=s.at' from rfl,<-HPE.out]
 simp only[jm]
 obtain⟨W,hW⟩:∃W,W=w1.alloc (.cells #[ae k,ae ln,ae n,af st,.bool op,.bool ti] 139):=⟨_,rfl⟩
 have hbW:aE u W:=by rw[hW];exact hb1.alloc hb1.size _
 have HBW:=ad hbW
 have HAW:=ad (HA.later hbW)
 have hlk:=zw (u:=W.drew) (HG.keep (hbW.drew.block _ HG.lt)) k hkd
 rw[hm]at hlk
 simp only[Option.map_some,Option.getD_some,Option.isSome_some]at hlk
 have c3:W.cell? (ak rb 3)=some (.map (some bb)):=(HAW.blk.cell (i:=3) rfl).trans (congrArg some hbv)
 have hn:W.heap[w1.heap.size]?=some (.cells #[ae k,ae ln,ae n,af st,.bool op,.bool ti] 139 (0,0)):=by rw[hW];exact heap_alloc_new w1 _
 obtain⟨n0,n1,n2,n3,n4,n5,nf⟩:=iT hn
 have HCW:=ad (HC.out W.drew hbW.drew)
 clear hb1 hbW hn hm
 unfold ww at hlk
 simp only[jm]at HCW
 go_upto_region 1 with fail
 rw[<-hW]
 clear hW
 go_region
 clear hlk c3
 rcases hF with rfl|rfl|rfl
 all_goals
  go_wp2_with fail
  refine HCW.mono ?_
  rintro e w2 hq
  obtain rfl:=HQ.out _ _ hq
  have HQQ:=ad hq
  clear hq n0 n1 n2 n3 n4 n5 nf
  go_wp2_with fail
  exact bodyPost_end (v:=.tuple #[]) (by simp[results,results131,go_sem]) rfl HQQ.out
theorem jC (u:World) (rb:Nat) (v:jr) (ts:List dq) (s:cI) (B:Nat) (h:bU u rb v ts s B) (hk1:(bg ts s.at').kind≠1) (hk2:(bg ts s.at').kind≠2) (hc:kK ts s.at' 44=false):
 Calls prog 132 #[ah rb] u fun e u'=>e=.returned (.bool false)/\aE u u':=by
 have HA:=ad h
 have HC:=ad hc
 have d1:((bg ts s.at').kind !=1)=true:=by rw[bne_iff_ne];exact hk1
 have d2:((bg ts s.at').kind !=2)=true:=by rw[bne_iff_ne];exact hk2
 clear h hc hk1 hk2
 obtain⟨p1,hp1⟩:∃p,p=bg ts s.at':=⟨_,rfl⟩
 have HPE:=ad hp1
 rw[<-hp1]at d1 d2
 clear hp1
 obtain⟨k,ln,n,st,op,ti⟩:=p1
 simp only at d1 d2
 go_enter func132,ntmps132
 go_wp2_with fail
 refine(iE _ rb v ts s B HA.out 0 (by omega)).mono ?_
 rintro e w1 ⟨rfl,hb1⟩
 rw[show s.at'+0=s.at' from rfl,<-HPE.out]
 simp only[jm]
 obtain⟨W,hW⟩:∃W,W=w1.alloc (.cells #[ae k,ae ln,ae n,af st,.bool op,.bool ti] 139):=⟨_,rfl⟩
 have hbW:aE u W:=by rw[hW];exact hb1.alloc hb1.size _
 have HBW:=ad hbW
 have hn:W.heap[w1.heap.size]?=some (.cells #[ae k,ae ln,ae n,af st,.bool op,.bool ti] 139 (0,0)):=by rw[hW];exact heap_alloc_new w1 _
 obtain⟨n0,n1,n2,n3,n4,n5,nf⟩:=iT hn
 clear hb1 hbW hn
 go_upto_region 2 with fail
 rw[<-hW]
 clear hW
 go_wp2_with fail
 refine(AT W rb v ts s B (HA.later HBW.out) 0 (by omega) 44).mono ?_
 rintro e w2 ⟨rfl,hb2⟩
 rw[show s.at'+0=s.at' from rfl,HC.out]
 have HB2:=ad (HBW.trans (hb2.mono HBW.size))
 clear hb2
 go_wp2_with fail
 go_ret
 exact⟨rfl,HB2.out⟩
theorem By (u:World) (rb:Nat) (v:jr) (ts:List dq) (s:cI) (B:Nat) (m:Int) (h:bU u rb v ts s B) (hrow:ej u rb v.wv [⟨2,m,[112],0,none,0,0⟩]) (S:Nat->Prop) (hS:∀b,S b->aR u 27 b) (hx:aI u S v.x s.t) (h41:kK ts s.at' 41=true) (h44:kK ts s.at' 44=false):
 Calls prog 133 #[ah rb] u fun e u'=>e=am/\∃wv' g c,bU u' rb {v with wv:=wv',x:=⟨4,0,[112],some (ak g 0),1,c⟩} ts ((({s with wait:=[],most:=m} :cI).go 1).done (.mk 4 0 [112] [s.t]) 0) B/\ej u' rb wv' []/\aI u' (fun b=>S b\/(u.heap.size<=b/\aR u' 27 b)) ⟨4,0,[112],some (ak g 0),1,c⟩ (.mk 4 0 [112] [s.t])/\Fr (·=rb) u u':=by
 refine aa fun P hP=>?_
 have HP:=ad hP
 obtain⟨g,cap,hsh,hg0,hg1,hcap,hcs⟩:=hrow.cells pe (by simp)
 rw[show([⟨2,m,[112],0,none,0,0⟩]:List ru).length=1 from rfl]at hsh hcap
 have e0:=(hcs 0 _ rfl 0 _ rfl).1
 have e1:=(hcs 0 _ rfl 1 _ rfl).1
 have e2:=(hcs 0 _ rfl 2 _ rfl).1
 have e3:=(hcs 0 _ rfl 3 _ rfl).1
 have e4:=(hcs 0 _ rfl 4 _ rfl).1
 simp only[Nat.zero_mul,Nat.zero_add]at e0 e1 e2 e3 e4
 have c4:u.cell? (ak rb 4)=some (al g 1 cap):=(h.blk.cell (i:=4) rfl).trans (congrArg some hsh)
 have c5:u.cell? (ak rb 5)=some (ae s.most):=h.blk.cell (i:=5) rfl
 have cf:=h.blk.free
 have hrl:=h.blk.lt
 have hN1:(1:Int)<=(cap:Int):=by omega
 have hN2:(0:Int)<=(cap:Int):=by omega
 have hN3:0<=cap:=Nat.zero_le _
 have HH:=ad (aD h (aD hrow (aD hx (aD h41 h44))))
 have HSS:=ad hS
 clear h hrow hx hS h41 h44 hcs hP
 go_enter func133,ntmps133
 go_wp2_with fail
 go_region
 go_upto_region 1 with fail
 go_region
 go_upto_region 15 with fail
 obtain⟨W,hW⟩:∃W,W=(((u.setCell (ak rb 4) (al g 0 cap)).setCell (ak rb 5) (ae m)).alloc (.cells #[ae 2,ae m,.string ⟨#[112]⟩,ae 0,aj] 209)).drew.drew:=⟨_,rfl⟩
 obtain⟨fb,hfb⟩:∃fb,fb=u.heap.size:=⟨_,rfl⟩
 have hbz:∀(w:World) (o:Obj),aE w (w.alloc o).drew.drew:=fun w o=>aB.drew.drew
 have hsz:((u.setCell (ak rb 4) (al g 0 cap)).setCell (ak rb 5) (ae m)).heap.size=u.heap.size:=by rw[World.size_setCell,World.size_setCell]
 have HW:Hid (bU W rb {v with wv:=al g 0 cap} ts {s with wait:=[],most:=m} B/\ej W rb (al g 0 cap) []/\Fr (·=rb) u W/\W.heap[fb]?=some (.cells #[ae 2,ae m,.string ⟨#[112]⟩,ae 0,aj] 209 (0,0))/\aI W S v.x s.t/\u.heap.size<=fb/\fb<W.heap.size):=ad (by
  have hF:Fr (·=rb) u W:=by
   rw[hW]
   exact((((Fr.refl (·=rb) u).setCell (p:=(ak rb 4)) (.inl rfl) _).setCell (p:=(ak rb 5)) (.inl rfl) _).alloc _).drew.drew
  have h1:=HH.1.put (v':= {v with wv:=al g 0 cap}) (s':= {s with wait:=[]}) 4 (al g 0 cap) (by simp[bT]) rfl rfl HH.1.in'
  have h2:=h1.put (v':= {v with wv:=al g 0 cap}) (s':= {s with wait:=[],most:=m}) 5 (ae m) (by simp[bT]) rfl rfl HH.1.in'
  have h3:W.heap[fb]?=some (.cells #[ae 2,ae m,.string ⟨#[112]⟩,ae 0,aj] 209 (0,0)):=by
   rw[hW,hfb,<-hsz]
   exact az
  refine⟨?_,?_,hF,h3,HH.2.2.1.keep (fun b hb=>hb) (fun b hb=>hF.block b (HSS.out b hb).lt ((HSS.out b hb).ne ⟨_,HH.1.blk⟩ (by decide))),by omega,(ap h3).1⟩
  ·rw[hW]
   exact h2.later (hbz _ _)
  ·have hr:=HH.2.1
   rw[hsh]at hr
   have h4:=aS.front (l:=[]) pe hr
   exact aS.keep h4 fun k hk=>hF.block k (h4.lt k hk).2 fun e=>by have:=(h4.lt k hk).1;omega)
 have HGF:Hid (g<fb):=ad (by omega)
 rw[<-hW,<-hfb]
 clear hW hsz hbz e0 e1 e2 e3 e4 c4 c5 cf hrl hN1 hN2 hN3 hg0 hg1 hcap hsh hfb
 obtain⟨m0,m1,m2,m3,m4,mf⟩:=mq HW.2.2.2.1
 have d7:W.cell? (ak rb 7)=some (ae v.x.k):=HW.1.blk.cell (i:=7) rfl
 have d8:W.cell? (ak rb 8)=some (ae v.x.n):=HW.1.blk.cell (i:=8) rfl
 have d9:W.cell? (ak rb 9)=some (af v.x.s):=HW.1.blk.cell (i:=9) rfl
 have d10:W.cell? (ak rb 10)=some (.slice v.x.A v.x.len v.x.cap):=HW.1.blk.cell (i:=10) rfl
 have drl:=HW.1.blk.lt
 have hfl:=HW.2.2.2.2.2.2
 obtain⟨ti,tz,h1,h2,h3,h4,h5⟩:=ft
 have hbo:aE W (W.alloc (.cells #[ae v.x.k,ae v.x.n,af v.x.s,.slice v.x.A v.x.len v.x.cap] 27)).drew:=aB.drew
 obtain⟨g9,cap9,w9,hr9,hR9,hg9,ho9⟩:=aS.push (P:=prog) 25 underlying25 h1 h2 h3 h4 (by rw[h5];rfl) (by decide) bh gy (w:=(W.alloc (.cells #[ae v.x.k,ae v.x.n,af v.x.s,.slice v.x.A v.x.len v.x.cap] 27)).drew) (aS.nil _ (rb+1) _ _ _) v.x W.heap.size 1
  (fun j x hx=>bV W _ _ j x (by simpa[aJ]using hx)) (by simp;unfold maxLen;omega) (by simp) (Nat.le_trans drl hbo.size)
 have hb9:aE W w9:=hbo.grown hg9 hbo.size fun k hk=>by cases hk
 have hF9:W.heap[fb]?=w9.heap[fb]?:=(hb9.block fb hfl).symm
 have hB9:w9.heap[fb]?=some (.cells #[ae 2,ae m,.string ⟨#[112]⟩,ae 0,aj] 209 (0,0)):=hF9.symm.trans HW.2.2.2.1
 obtain⟨p0,p1,p2,p3,p4,pf⟩:=mq hB9
 have pl:fb<w9.heap.size:=(ap hB9).1
 have hg9u:u.heap.size<=g9:=by
  rcases ho9 with e|e
  ·cases e
  ·rw[e]
   exact Nat.le_trans HW.2.2.1.size hbo.size
 obtain⟨w10,hw10⟩:∃w10,w10=w9.setCell (ak fb 4) (al g9 1 cap9):=⟨_,rfl⟩
 have hfg:fb≠g9:=aR.ne (t:=209) ⟨_,hB9⟩ (hR9.ty rfl) (by decide)
 have HS:Hid (bU w10 rb {v with wv:=al g 0 cap} ts {s with wait:=[],most:=m} B/\ej w10 rb (al g 0 cap) []/\Fr (·=rb) u w10/\w10.heap[fb]?=some (.cells #[ae 2,ae m,.string ⟨#[112]⟩,ae 0,al g9 1 cap9] 209 (0,0))/\aI w10 (fun b=>S b\/(u.heap.size<=b/\aR w10 27 b)) ⟨4,0,[112],some (ak g9 0),1,cap9⟩ (.mk 4 0 [112] [s.t])):=ad (by
  have hk:∀k,k≠fb->w10.heap[k]?=w9.heap[k]?:=fun k hk=>by rw[hw10];exact av _ _ _ _ hk
  have hR:=HW.1.later hb9
  have hfr:fb≠rb:=aR.ne (t:=209) ⟨_,hB9⟩ ⟨_,hR.blk⟩ (by decide)
  have hST:∀b,S b->aR W 27 b:=fun b hb=>(HSS.out b hb).keep (HW.2.2.1.block b (HSS.out b hb).lt ((HSS.out b hb).ne ⟨_,HH.1.blk⟩ (by decide)))
  have hkT:∀b,aR W 27 b->w10.heap[b]?=W.heap[b]?:=fun b hb=>(hk b (hb.ne ⟨_,HW.2.2.2.1⟩ (by decide))).trans (hb9.block b hb.lt)
  have hF:Fr (·=rb) u w10:=by
   rw[hw10]
   exact((HW.2.2.1).step hb9).setCell (p:=(ak fb 4)) (.inr HW.2.2.2.2.2.1) _
  refine⟨?_,?_,hF,?_,?_⟩
  ·exact hR.keep (hk rb hfr.symm) fun k hk'=>hk k (by have:=HW.1.base;have:=HH.1.blk.lt;have:=HW.2.2.2.2.2.1;omega)
  ·exact aS.keep (aS.later HW.2.1 hb9) fun k hk'=>hk k fun e=>by
    have e2:g=k:=Option.some.inj hk'
    have:=HGF.out
    omega
  ·rw[hw10]
   exact aK hB9 _
  ·have hrow9:aS w10 (rb+1) 27 4 aJ (al g9 1 cap9) [v.x]:=hR9.keep fun k hk'=>hk k (by injection hk' with e;subst e;exact hfg.symm)
   have hxx:=HW.2.2.2.2.1.keep (w':=w10) (S':=fun b=>S b\/(u.heap.size<=b/\aR w10 27 b)) (fun b hb=>.inl hb) fun b hb=>hkT b (hST b hb)
   exact ct.comp (xs:=[v.x]) ⟨rfl,fun i y t hy ht=>by
    rcases i with _|i
    ·injection hy with hy;injection ht with ht;subst hy ht;exact hxx
    ·simp at hy⟩ hrow9 rfl (fun g hg=>.inr ⟨by have e:g9=g:=Option.some.inj hg;rw[<-e];exact hg9u,hrow9.ty hg⟩) [112] (by decide) 4 0)
 rw[show([]:List TV).length+1=1 from rfl]at hr9
 clear hg9u h1 h2 h3 h4 h5 hbo hR9 hg9 ho9 hb9 hF9 hB9 hfg
 go_region_law (first|(refine ks rfl (.tmp 92) (.tmp 97) 25 rfl (by rfl) (by rfl) hr9 ?_))
 all_goals
  clear m0 m1 m2 m3 m4 mf d7 d8 d9 d10 drl hfl p0 p1 p2 p3 p4 pf pl hr9
  go_wp2_with fail
  rw[<-hw10]
  refine(jV w10 rb _ ts _ B HS.1 44).mono ?_
  rintro e w11 ⟨rfl,q1,qF⟩
  rw[show({s with wait:=[],most:=m} :cI).at'=s.at' from rfl,HH.2.2.2.2]at q1⊢
  rw[if_neg (by simp)]at q1
  have hfr:fb≠rb:=aR.ne (t:=209) ⟨_,HS.2.2.2.1⟩ ⟨_,HS.1.blk⟩ (by decide)
  have H11:=ad (aD q1 (aD qF (aD ((qF.block fb (ap HS.2.2.2.1).1 hfr).trans HS.2.2.2.1) hfr)))
  clear q1 qF hfr
  go_wp2_with fail
  refine(jH w11 rb _ ts _ B H11.1 41).mono ?_
  rintro e w12 ⟨qF,q1⟩
  rw[show({s with wait:=[],most:=m} :cI).at'=s.at' from rfl,HH.2.2.2.1,if_pos rfl]at q1
  obtain⟨rfl,q1⟩:=q1
  have hb12:=(qF.block fb (ap H11.2.2.1).1 H11.2.2.2).trans H11.2.2.1
  obtain⟨m0,m1,m2,m3,m4,mf⟩:=mq hb12
  have H12:=ad (aD q1 ((H11.2.1).trans qF))
  clear q1 qF hb12
  go_wp2_with fail
  refine(mv w12 rb _ ts _ B H12.1 ⟨4,0,[112],some (ak g9 0),1,cap9⟩ (.mk 4 0 [112] [s.t]) 0).mono ?_
  rintro e w13 ⟨rfl,q1,qF⟩
  have HQ:Hid (P am w13):=ad (by
   have hF:=H12.2.trans qF
   have hkT:∀b,aR w10 27 b->w13.heap[b]?=w10.heap[b]?:=fun b hb=>hF.block b hb.lt (hb.ne ⟨_,HS.1.blk⟩ (by decide))
   have hST:∀b,S b->aR w10 27 b:=fun b hb=>(HSS.out b hb).keep (HS.2.2.1.block b (HSS.out b hb).lt ((HSS.out b hb).ne ⟨_,HH.1.blk⟩ (by decide)))
   rw[HP.out]
   exact⟨rfl,_,g9,cap9,q1,aS.keep HS.2.1 fun k hk'=>hF.block k (HS.2.1.lt k hk').2 fun e=>by have:=(HS.2.1.lt k hk').1;omega,HS.2.2.2.2.keep (fun b hb=>hb.imp_right fun hb=>⟨hb.1,hb.2.keep (hkT b hb.2)⟩) (fun b hb=>hkT b (hb.elim (hST b) fun h=>h.2)),HS.2.2.1.trans hF⟩)
  clear q1 qF m0 m1 m2 m3 m4 mf
  go_wp2_with fail
  exact bodyPost_end (v:=.tuple #[]) (by simp[results,results133,go_sem]) rfl HQ.out
end
end Go.Proofs.YtigeofkllldilaaGreatDoor
