import Derived.Test.YtigeofkllldilaaGreatDoorJM23
import Derived.Test.YtigeofkllldilaaGreatDoorJM22
set_option maxHeartbeats 32000000
set_option maxRecDepth 100000
set_option linter.unusedSectionVars false
open Go.Proofs.Tryz
namespace Go.Proofs.YtigeofkllldilaaGreatDoor
section
open Go.RowKit
theorem fw {w1:World} {b:Nat} {a0 a1 a2 a3 a4 a5:Value} {t:TypeId} (h:w1.heap[b]?=some (.cells #[a0,a1,a2,a3,a4,a5] t (0,0))):
 w1.cell? (ak b 0)=some a0/\w1.cell? (ak b 1)=some a1/\w1.cell? (ak b 2)=some a2/\w1.cell? (ak b 3)=some a3/\w1.cell? (ak b 4)=some a4/\w1.cell? (ak b 5)=some a5/\∀o,w1.frozen? ⟨b,o,none⟩=false:=by
 have hc:=fun k=>cell_of_row w1 b k _ _ _ h
 exact⟨(hc 0).trans rfl,(hc 1).trans rfl,(hc 2).trans rfl,(hc 3).trans rfl,(hc 4).trans rfl,(hc 5).trans rfl,fun o=>by simp[World.frozen?,h]⟩
abbrev qI (n:Int):Array Value:=#[ae 3,ae 0,ae n,ai,.bool false,.bool false]
def xR (n:Int):Value:=.tuple #[.agg #[ae 3,ae 0,ae n,ai,.bool false,.bool false],ae 1,ae 0]
theorem CR (a0 a1 a2 a3 a4 a5:Value) (n:Int):eG #[a0,a1,a2,a3,a4,a5] 0 (qI n).toList=qI n:=by kernel_rfl
theorem B3 {w1:World} {b:Nat} {a0 a1 a2 a3 a4 a5:Value} {t:TypeId} (h:w1.heap[b]?=some (.cells #[a0,a1,a2,a3,a4,a5] t (0,0))) (n:Int):(w1.setCells b 0 (qI n).toList).heap[b]?=some (.cells (qI n) t (0,0)):=by
 have:=bO (qI n).toList w1 0 _ h
 rwa[CR]at this
section
variable(w:World) {s:List UInt8} {t:fl} (h:nN s t)
include h
theorem BF (ht:t.kind=3):Calls prog 114 #[af s,ae 0,ae 10] w fun e w'=>e=.returned (kT (some (some t)))/\aE w w':=by
 cases h<;>first|(exact absurd ht (by decide))|skip
 all_goals
  clear ht
  go_enter func114,ntmps114
  go_wp2_with fail
  go_loop [9] (fun i=>i=ae 0\/i=ae 1) (fun i=>1-(intOf i).toNat)
  case atStart=>exact .inl rfl
  case round=>
   rcases hrel with rfl|rfl
   ·go_wp2_with fail
    first
     |refine(j6 _ _ 1 0 (.inl ⟨by rfl,rfl,rfl⟩)).mono ?_
     |refine(j6 _ _ 2 0 (.inr (.inl ⟨by rfl,rfl,rfl⟩))).mono ?_
    rintro y w1 ⟨rfl,rfl⟩
    go_wp2_with fail
    exact⟨.inr rfl,by decide⟩
   ·go_wp2_with fail
    refine(j6 _ _ 0 6 (.inr (.inr ⟨by rfl,rfl,rfl⟩))).mono ?_
    rintro y w1 ⟨rfl,rfl⟩
    go_wp2_with fail
    first
     |refine(j6 _ _ 1 0 (.inl ⟨by rfl,rfl,rfl⟩)).mono ?_
     |refine(j6 _ _ 2 0 (.inr (.inl ⟨by rfl,rfl,rfl⟩))).mono ?_
    rintro y w1 ⟨rfl,rfl⟩
    go_wp2_with fail
    refine bodyPost_ret ?_ rfl ⟨rfl,aB⟩
    simp[results,results114,go_sem,kT,jF]
theorem BB (x:Value) (ht:t.kind≠7):Calls prog 49 #[x,af s] w fun e w'=>e=.returned (ix 3 t)/\aE w w':=by
 obtain⟨W,hW⟩:∃W,W=w.alloc (.cells #[ae 0,ae 0,ae 0,ai,.bool false,.bool false] 139):=⟨_,rfl⟩
 have hb:aE w W:=by rw[hW];exact aB
 have hz:W.heap[w.heap.size]?=some (.cells #[ae 0,ae 0,ae 0,ai,.bool false,.bool false] 139 (0,0)):=by rw[hW];exact az
 by_cases hk:t.kind=3
 ·obtain⟨n,hT⟩:∃n,kT (some (some t))=xR n:=by cases h<;>first|(exact absurd hk (by decide))|exact⟨_,rfl⟩
  have HD:Hid (Calls prog 114 #[af s,ae 0,ae 10] W fun e w'=>e=.returned (xR n)/\aE W w'):=ad (by rw[<-hT];exact BF W h hk)
  have HB:=ad (aD hb hz)
  have hT2:ix 3 t=xR n:=by unfold ix;rw[if_pos hk,hT]
  rw[hT2]
  clear hT hT2
  cases h<;>first|(exact absurd hk (by decide))|skip
  all_goals
   clear ht hk hb hz
   go_enter func49,ntmps49
   go_upto_region 1 with fail
   rw[<-hW]
   clear hW
   go_wp2_with fail
   refine(cr _ _ 4 (by decide)).mono ?_
   rintro y w1 ⟨rfl,rfl⟩
   go_wp2_with fail
   refine HD.mono ?_
   rintro y w2 ⟨rfl,hb2⟩
   have hz2:=(hb2.block _ (ap HB.2).1).trans HB.2
   obtain⟨y0,y1,y2,y3,y4,y5,yf⟩:=fw hz2
   have hl2:=(ap hz2).1
   have HB2:=ad (aD (HB.1.trans (hb2.mono HB.1.size)) hz2)
   clear hb2 hz2
   unfold xR
   go_wp2_with fail
   obtain⟨WF,hWF⟩:∃WF,WF=w2.setCells w.heap.size 0 (qI n).toList:=⟨_,rfl⟩
   show bodyPost _ _ _ _ _ (w2.setCells w.heap.size 0 (qI n).toList)
   rw[<-hWF]
   have hbF:aE w WF:=by
    rw[hWF]
    exact HB2.1.trans ((bX (S:=(·=w.heap.size)) (w:=w2) (.inl rfl) _ w2 0 (Fr.refl _ _)).below HB2.1.size fun k hk e=>by have e:k=w.heap.size:=e;omega)
   have hF:WF.heap[w.heap.size]?=some (.cells (qI n) 139 (0,0)):=by rw[hWF];exact B3 HB2.2 n
   clear hWF y0 y1 y2 y3 y4 y5 yf
   obtain⟨f0,f1,f2,f3,f4,f5,-⟩:=fw hF
   exact bodyPost_ret (v:=xR n) (by simp[results,results49,go_sem,xR,f0,f1,f2,f3,f4,f5]) rfl ⟨rfl,hbF⟩
 ·clear hb hz hW
  cases h<;>first|(exact absurd rfl ht)|(exact absurd rfl hk)|skip
  all_goals
   clear ht hk
   go_enter func49,ntmps49
   go_wp2_with fail
   first
    |refine(cr _ _ 2 (by decide)).mono ?_
    |refine(cr _ _ 3 (by decide)).mono ?_
    |refine(cr _ _ 7 (by decide)).mono ?_
   rintro y w1 ⟨rfl,rfl⟩
   go_wp2_with fail
   refine bodyPost_ret ?_ rfl ⟨rfl,aB⟩
   simp[results,results49,go_sem,ix,kT,jF]
end
end
section
open Go.RowKit
theorem bk.fns {w:World} {bx a ln en:Nat} {T:List UInt8} {v:Value} (h:bk w bx T a ln en v):w.cell? (ak bx 5)=some (.func (.func 46) #[ah bx] #[])/\w.cell? (ak bx 6)=some (.func (.func 47) #[ah bx] #[])∧
 w.cell? (ak bx 7)=some (.func (.func 48) #[ah bx] #[])/\w.cell? (ak bx 8)=some (.func (.func 49) #[ah bx] #[])∧
 w.cell? (ak bx 9)=some (.func (.func 50) #[ah bx] #[])/\w.cell? (ak bx 10)=some (.func (.func 51) #[ah bx] #[]):=by
 have hc:=fun k=>cell_of_row w bx k _ _ _ h.blk
 exact⟨(hc 5).trans rfl,(hc 6).trans rfl,(hc 7).trans rfl,(hc 8).trans rfl,(hc 9).trans rfl,(hc 10).trans rfl⟩
abbrev yV:Obj:=.cells #[ae 0,ae 0,ae 0,ai,.bool false,.bool false] 139
def jx (k:Int):Nat:=if k=7 then 0 else if k=1 then 1 else if k=4 then 2 else if k=3 then 3 else 5
def kx:Nat->Int
 |0=>7
 |1=>1
 |2=>4
 |3=>3
 |4=>2
 |_=>6
def fx:Nat->FuncId
 |0=>46
 |1=>47
 |2=>48
 |3=>49
 |4=>50
 |_=>51
def rV (k n:Int) (s:List UInt8) (m:Int):Value:=.tuple #[.agg #[ae k,ae 0,ae n,af s,.bool false,.bool false],ae m,ae 0]
theorem EW {s:List UInt8} {t:fl} (h:nN s t) (w:World) (x:Value) (q:Nat) (h5:q<=5) (hq:q<=jx t.kind):Calls prog (fx q) #[x,af s] w fun e w'=>e=.returned (if q=jx t.kind then rV t.kind t.n t.s 1 else rV 0 0 [] 0)/\aE w w':=by
 have hk:(if q=jx t.kind then rV t.kind t.n t.s 1 else rV 0 0 [] 0)=ix (kx q) t:=by
  rcases(by omega:q=0\/q=1\/q=2\/q=3\/q=4\/q=5)with rfl|rfl|rfl|rfl|rfl|rfl<;>cases h<;>first|rfl|exact absurd hq (by decide)
 have h7:q≠0->t.kind≠7:=fun h0 e=>by rw[e]at hq;exact h0 (Nat.le_zero.1 hq)
 rw[hk]
 rcases(by omega:q=0\/q=1\/q=2\/q=3\/q=4\/q=5)with rfl|rfl|rfl|rfl|rfl|rfl
 ·exact Ee w x h
 ·exact Dy w x h (h7 (by decide))
 ·exact CT w x h (h7 (by decide))
 ·exact BB w h x (h7 (by decide))
 ·exact Bj w x h (h7 (by decide))
 ·exact CS w x h (h7 (by decide))
theorem uC {w1:World} {b:Nat} {a0 a1 a2 a3 a4 a5:Value} {t:TypeId} (h:w1.heap[b]?=some (.cells #[a0,a1,a2,a3,a4,a5] t (0,0))) (k n:Int) (s:List UInt8):
 ((((((w1.setCell (ak b 0) (ae k)).setCell (ak b 1) (ae 0)).setCell (ak b 2) (ae n)).setCell (ak b 3) (af s)).setCell (ak b 4) (.bool false)).setCell (ak b 5) (.bool false)).heap[b]?=some (.cells #[ae k,ae 0,ae n,af s,.bool false,.bool false] t (0,0)):=by
 have h1:=bO [ae k,ae 0,ae n,af s,.bool false,.bool false] w1 0 _ h
 have h2:eG #[a0,a1,a2,a3,a4,a5] 0 [ae k,ae 0,ae n,af s,.bool false,.bool false]=#[ae k,ae 0,ae n,af s,.bool false,.bool false]:=by kernel_rfl
 rw[h2]at h1
 exact h1
theorem AG {k n k' n':Int} {s s':List UInt8} {m m':Int} (h:rV k n s m=rV k' n' s' m'):k'=k/\n'=n/\s'=s/\m'=m:=by
 unfold rV at h
 simp only[Value.tuple.injEq,Value.agg.injEq,Array.mk.injEq,List.cons.injEq,Value.int.injEq,Value.string.injEq,ByteArray.mk.injEq,true_and,and_true]at h
 exact⟨h.1.1.symm,h.1.2.1.symm,h.1.2.2.symm,h.2.symm⟩
structure EG (w:World) (bx:Nat) (T:List UInt8) (a ln en:Nat) (v:Value) (u:World):Prop where
 lex:bk u bx T a ln en v
 res:u.heap[w.heap.size]?=some (.cells #[ae 0,ae 0,ae 0,ai,.bool false,.bool false] 139 (0,0))
 below:aE w u
theorem EG.later {w u u1:World} {bx a ln en:Nat} {T:List UInt8} {v:Value} (h:EG w bx T a ln en v u) (hb:aE u u1):EG w bx T a ln en v u1:=⟨h.lex.later hb,(hb.block _ (ap h.res).1).trans h.res,h.below.trans (hb.mono h.below.size)⟩
theorem DU (w:World) (bx:Nat) (T:List UInt8) (a ln en:Nat) (v:Value) (h:bk w bx T a ln en v) {t:fl} (hs:nN (T.drop a) t) (ha:a<=T.length) (hT:T.length<=100):
 Calls prog 53 #[ah bx] w fun e w'=>e=.returned (rV t.kind t.n t.s 1)/\aE w w':=by
 refine aa fun P hP=>?_
 have HP:=ad hP
 obtain⟨W,hW⟩:∃W,W=w.alloc yV:=⟨_,rfl⟩
 have hb:aE w W:=by rw[hW];exact aB
 have HI:Hid (EG w bx T a ln en v W):=ad ⟨h.later hb,by rw[hW];exact az,hb⟩
 obtain⟨f5,f6,f7,f8,f9,f10⟩:=HI.lex.fns
 have HS:=ad (aD hs (aD ha hT))
 have hj:jx t.kind<=5:=by unfold jx;split<;>(try split)<;>(try split)<;>(try split)<;>omega
 obtain⟨j,hjj⟩:∃j,j=jx t.kind:=⟨_,rfl⟩
 rw[<-hjj]at hj
 have HJ:=ad hjj
 clear hP h hs ha hT hb hjj
 go_enter func53,ntmps53
 go_upto_region 1 with fail
 rw[<-hW]
 clear hW
 go_wp2_with fail
 clear f5 f6 f7 f8 f9 f10
 go_loopw [14] (fun i wr=>∃q:Nat,i=ae (q:Nat)/\q<=j/\Hid (EG w bx T a ln en v wr)) (fun i _=>6-(intOf i).toNat)
 case atStart=>exact⟨0,rfl,Nat.zero_le _,HI⟩
 case round=>
  obtain⟨q,rfl,hq,HN⟩:=hrel
  clear HI
  have HQ1:Hid (¬q=jx t.kind->q+1<=j):=ad fun h0=>by rw[<-HJ.out]at h0;omega
  have hsl:=ld T a
  obtain⟨S,hS⟩:∃S,S=T.drop a:=⟨_,rfl⟩
  rw[<-hS]at hsl
  obtain⟨kk,nn,ss,mm,hR⟩:∃kk nn ss mm,(if q=jx t.kind then rV t.kind t.n t.s 1 else rV 0 0 [] 0)=rV kk nn ss mm:=by split<;>exact⟨_,_,_,_,rfl⟩
  obtain⟨F,hF⟩:∃F,F=fx q:=⟨_,rfl⟩
  have HT:Hid (∀V,aE wr V->Calls prog F #[ah bx,af S] V fun e w1=>e=.returned (rV kk nn ss mm)/\aE V w1/\aE wr w1):=ad fun V hV=>by
   have h1:=EW HS.1 V (ah bx) q (by omega) (by rw[<-HJ.out];exact hq)
   rw[hR,<-hS,<-hF]at h1
   refine h1.mono ?_
   rintro e w1 ⟨rfl,g⟩
   exact⟨rfl,g,hV.trans (g.mono hV.size)⟩
  have HSV:Hid (∀V,aE wr V->V.cell? (ak bx 0)=some (af T)/\V.cell? (ak bx 1)=some (ae (a:Int))):=ad fun V hV=>⟨(HN.lex.later hV).cells.1,(HN.lex.later hV).cells.2.1⟩
  have d0:=(Below.refl wr.heap.size wr).drew
  have d1:=((Below.refl wr.heap.size wr).alloc aC yV).drew
  have HZ1:Hid ((wr.alloc yV).drew.heap[wr.heap.size]?=some (.cells #[ae 0,ae 0,ae 0,ai,.bool false,.bool false] 139 (0,0))):=ad (heap_alloc_new wr _)
  have HL1:Hid (wr.heap.size<(wr.alloc yV).drew.heap.size):=ad (ap HZ1.out).1
  have ha0:(0:Int)<=(a:Int):=by omega
  have ha1:(a:Int)<=(T.length:Int):=by have:=HS.2.1;omega
  have HR:=ad hR
  have hix:(Instr.index 135 (.agg #[.func (.func 46) #[ah bx] #[],.func (.func 47) #[ah bx] #[],.func (.func 48) #[ah bx] #[],.func (.func 49) #[ah bx] #[],.func (.func 50) #[ah bx] #[],.func (.func 51) #[ah bx] #[]]) (ae (q:Nat))).run prog wr=.ok (.func (.func F) #[ah bx] #[]) wr:=by
   rw[hF]
   rcases(by omega:q=0\/q=1\/q=2\/q=3\/q=4\/q=5)with rfl|rfl|rfl|rfl|rfl|rfl<;>kernel_rfl
  clear hS hR
  rcases(by omega:q=0\/q=1\/q=2\/q=3\/q=4\/q=5)with rfl|rfl|rfl|rfl|rfl|rfl
  all_goals
   first
    |(rw[show((0:Nat):Int)=0 from rfl]at hix;replace hF:F=46:=hF)
    |(rw[show((1:Nat):Int)=1 from rfl]at hix;replace hF:F=47:=hF)
    |(rw[show((2:Nat):Int)=2 from rfl]at hix;replace hF:F=48:=hF)
    |(rw[show((3:Nat):Int)=3 from rfl]at hix;replace hF:F=49:=hF)
    |(rw[show((4:Nat):Int)=4 from rfl]at hix;replace hF:F=50:=hF)
    |(rw[show((5:Nat):Int)=5 from rfl]at hix;replace hF:F=51:=hF)
   subst hF
   unfold rV at HT
   go_upto_region 4 with fail
   go_cut [7,8,9]from 17 to 31 (fun p n e u=>n=ae mm/\e=ae 0/\∃tb,p=ah tb/\Hid (u.heap[tb]?=some (.cells #[ae kk,ae 0,ae nn,af ss,.bool false,.bool false] 139 (0,0))/\aE wr u))
   case first=>
    go_region_held3 (fun V=>V.cell? (ak bx 0)=some (af T)/\V.cell? (ak bx 1)=some (ae (a:Int)))
     (first|(with_reducible exact HSV.out _ (by assumption)))
     (first|(with_reducible refine(HT.out _ d1).mono ?_;rintro e w1 ⟨rfl,g0,g1⟩;have z1:=(g0.block _ HL1.out).trans HZ1.out;obtain⟨y0,y1,y2,y3,y4,y5,yf⟩:=fw z1;have yl:=(ap z1).1;have g2:=(((((g1.setCell (p:=(ak wr.heap.size 0)) aC (ae kk)).setCell (p:=(ak wr.heap.size 1)) aC (ae 0)).setCell (p:=(ak wr.heap.size 2)) aC (ae nn)).setCell (p:=(ak wr.heap.size 3)) aC (af ss)).setCell (p:=(ak wr.heap.size 4)) aC (.bool false)).setCell (p:=(ak wr.heap.size 5)) aC (.bool false))|(with_reducible refine(HT.out _ d0).mono ?_;rintro e w1 ⟨rfl,g0,g1⟩;have g2:=g1.alloc g1.size yV;have g3:=g1.alloc g1.size (.cells #[ae kk,ae 0,ae nn,af ss,.bool false,.bool false] 139)))
    all_goals
     go_wp2_with fail
     go_meet
     refine⟨rfl,rfl,_,rfl,ad ?_⟩
     first
      |exact⟨uC z1 kk nn ss,g2⟩
      |exact⟨az,g3⟩
   case rest=>
    obtain⟨u,rfl⟩:∃u:World,u=wc:=⟨_,rfl⟩
    obtain⟨rfl,rfl,tb,rfl,HG⟩:=hcut
    have HN2:=ad (HN.later HG.2)
    obtain⟨y0,y1,y2,y3,y4,y5,-⟩:=fw HG.1
    obtain⟨x0,x1,x2,x3,x4,x5,xf⟩:=fw HN2.res
    have xl:=(ap HN2.res).1
    clear HT HSV d0 d1 HZ1 HL1 hix ha0 ha1 hsl
    have hr:=HR.out
    clear HR
    split at hr
    ·rename_i hm
     clear hm
     obtain⟨rfl,rfl,rfl,rfl⟩:=AG hr
     clear hr
     go_wp2_with fail
     obtain⟨WF,hWF⟩:∃WF,WF=((((((u.setCell (ak w.heap.size 0) (ae t.kind)).setCell (ak w.heap.size 1) (ae 0)).setCell (ak w.heap.size 2) (ae t.n)).setCell (ak w.heap.size 3) (af t.s)).setCell (ak w.heap.size 4) (.bool false)).setCell (ak w.heap.size 5) (.bool false)):=⟨_,rfl⟩
     have hF:=uC HN2.res t.kind t.n t.s
     have hbF:aE w WF:=by
      rw[hWF]
      exact(((((HN2.below.setCell (p:=(ak w.heap.size 0)) aC _).setCell (p:=(ak w.heap.size 1)) aC _).setCell (p:=(ak w.heap.size 2)) aC _).setCell (p:=(ak w.heap.size 3)) aC _).setCell (p:=(ak w.heap.size 4)) aC _).setCell (p:=(ak w.heap.size 5)) aC _
     rw[<-hWF]at hF⊢
     clear hWF x0 x1 x2 x3 x4 x5 xf y0 y1 y2 y3 y4 y5
     obtain⟨f0,f1,f2,f3,f4,f5,-⟩:=fw hF
     exact bodyPost_ret (v:=rV t.kind t.n t.s 1) (by simp[results,results53,go_sem,rV,f0,f1,f2,f3,f4,f5]) rfl (by rw[HP.out];exact⟨rfl,hbF⟩)
    ·rename_i hm
     obtain⟨rfl,rfl,rfl,rfl⟩:=AG hr
     have HM:=ad (HQ1.out hm)
     clear hr hm
     go_wp2_with fail
     go_roundw
     case rel=>first|exact⟨1,rfl,HM.out,HN2⟩|exact⟨2,rfl,HM.out,HN2⟩|exact⟨3,rfl,HM.out,HN2⟩|exact⟨4,rfl,HM.out,HN2⟩|exact⟨5,rfl,HM.out,HN2⟩|exact⟨6,rfl,HM.out,HN2⟩
     case measure=>decide
end
end Go.Proofs.YtigeofkllldilaaGreatDoor
