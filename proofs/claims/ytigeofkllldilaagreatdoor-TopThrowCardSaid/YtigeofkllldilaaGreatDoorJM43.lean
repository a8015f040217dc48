import Derived.Test.YtigeofkllldilaaGreatDoorJM24
import Derived.Test.YtigeofkllldilaaGreatDoorJM42
set_option maxHeartbeats 32000000
set_option maxRecDepth 100000
set_option linter.unusedSectionVars false
open Go.Proofs.Tryz
namespace Go.Proofs.YtigeofkllldilaaGreatDoor
section
open Go.RowKit
def DW (w:World) (T:List UInt8) (e:Ending) (w':World):Prop:=
 ∃v',e=.returned (.tuple #[v',ae (gF T).2.1,ae (gF T).2.2])/\aS w' w.heap.size 139 6 bC v' (gF T).1/\aE w w'
structure Em (w:World) (T:List UInt8) (a:Nat) (v:Value) (ts:List dq) (u:World):Prop where
 lex:bk u w.heap.size T a 1 a v
 row:aS u (w.heap.size+1) 139 6 bC v ts
 below:aE w u
 le:a<=T.length
 head:rR T a
 eq:ts=(gF T).1.take (AX T a)
theorem pO {T:List UInt8} (hT:tD T):T.length<=11/\(gF T).1.length<=11:=by
 rcases hT with rfl|rfl|rfl<;>decide
theorem vD {T:List UInt8} (hT:tD T):(gF T).2.1=0/\(gF T).2.2=0:=by
 rcases hT with rfl|rfl|rfl<;>exact⟨rfl,rfl⟩
structure yI (w:World) (T:List UInt8) (k ln en:Nat) (v:Value) (ts:List dq) (u:World):Prop where
 lex:bk u w.heap.size T k ln en v
 row:aS u (w.heap.size+1) 139 6 bC v ts
 below:aE w u
section
variable {w u u':World} {T:List UInt8} {a ln k en ln':Nat} {v:Value} {ts:List dq}
theorem Em.after (h:Em w T a v ts u) (hl:bk u' w.heap.size T k ln' en v) (hF:Fr (·=w.heap.size) u u'):yI w T k ln' en v ts u':=
 ⟨hl,h.row.keep fun b hb=>hF.block b (h.row.lt b hb).2 (by have:=(h.row.lt b hb).1;omega),h.below.trans (hF.below h.below.size (fun k hk e=>by omega))⟩
theorem yI.later (h:yI w T k ln en v ts u) (hb:aE u u'):yI w T k ln en v ts u':=
 ⟨h.lex.later hb,h.row.later hb,h.below.trans (hb.mono h.below.size)⟩
theorem yI.drewN (h:yI w T k ln en v ts u) (n:Nat):yI w T k ln en v ts (u.drewN n):=h.later ⟨rfl,rfl,rfl,aC,fun _ _=>rfl⟩
theorem yI.ended {w' w9:World} (h:yI w T k ln en v ts u) (hb:aE u w') (hg:w'.grownBy w9 v.ownBlock):aE w w9:=
 (h.below.trans (hb.mono h.below.size)).trans ⟨hg.os,hg.tape,hg.output,hg.size,fun i hi=>hg.block i (Nat.lt_of_lt_of_le (Nat.lt_of_lt_of_le hi h.below.size) hb.size) (fun e=>by have:=(h.row.lt i e.symm).1;omega)⟩
theorem yI.rowed {w9:World} {gg cap2:Nat} {t:dq} (_:yI w T k ln en v ts u) (hown:w9.ownsRow (w.heap.size+1) 139 6 (al gg (ts.length+1) cap2) (ts.length+1) (ts.flatMap bC++bC t)):
 aS w9 (w.heap.size+1) 139 6 bC (al gg (ts.length+1) cap2) (ts++[t]):=⟨by rw[List.length_append,List.flatMap_append];simpa using hown⟩
end
theorem C8 (w:World) (T:List UInt8) (hT:tD T):Calls prog 24 #[af T] w (DW w T):=by
 have hT2:decide (65536<T.length)=false:=decide_eq_false (by have:=(pO hT).1;omega)
 have hT3:(T.length:Int)<=16000:=by have:=(pO hT).1;omega
 have HT:=ad hT
 have HTL:=ad (pO hT)
 clear hT
 have hblk:(w.alloc (.cells #[af T,ae 0,ae 1,ae 0,aj,.nilFunc,.nilFunc,.nilFunc,.nilFunc,.nilFunc,.nilFunc] 137)).heap[w.heap.size]?=some (.cells #[af T,ae 0,ae 1,ae 0,aj,.nilFunc,.nilFunc,.nilFunc,.nilFunc,.nilFunc,.nilFunc] 137 (0,0)):=heap_alloc_new w _
 have hlt:w.heap.size<w.heap.size+1:=Nat.lt_succ_self _
 obtain⟨W0,hW0⟩:∃W0,w.alloc (.cells #[af T,ae 0,ae 1,ae 0,aj,.nilFunc,.nilFunc,.nilFunc,.nilFunc,.nilFunc,.nilFunc] 137)=W0:=⟨_,rfl⟩
 rw[hW0]at hblk
 have f0:∀o,W0.frozen? ⟨w.heap.size,o,none⟩=false:=fun o=>by simp[World.frozen?,hblk]
 have cc:=fun k=>cell_of_row W0 w.heap.size k _ _ (0,0) hblk
 have c5:W0.cell? (ak w.heap.size 5)=some .nilFunc:=(cc 5).trans rfl
 have c6:W0.cell? (ak w.heap.size 6)=some .nilFunc:=(cc 6).trans rfl
 have c7:W0.cell? (ak w.heap.size 7)=some .nilFunc:=(cc 7).trans rfl
 have c8:W0.cell? (ak w.heap.size 8)=some .nilFunc:=(cc 8).trans rfl
 have c9:W0.cell? (ak w.heap.size 9)=some .nilFunc:=(cc 9).trans rfl
 have c10:W0.cell? (ak w.heap.size 10)=some .nilFunc:=(cc 10).trans rfl
 have HB:=ad hblk
 clear hblk cc
 go_enter func24,ntmps24
 go_wp2_with fail
 obtain⟨W1,hW1⟩:∃u,u=((((((W0.setCell (ak w.heap.size 5) (.func (.func 46) #[ah w.heap.size] #[])).setCell (ak w.heap.size 6) (.func (.func 47) #[ah w.heap.size] #[])).setCell (ak w.heap.size 7) (.func (.func 48) #[ah w.heap.size] #[])).setCell (ak w.heap.size 8) (.func (.func 49) #[ah w.heap.size] #[])).setCell (ak w.heap.size 9) (.func (.func 50) #[ah w.heap.size] #[])).setCell (ak w.heap.size 10) (.func (.func 51) #[ah w.heap.size] #[])):=⟨_,rfl⟩
 rw[<-hW1]
 have HI0:Hid (Em w T 0 aj [] W1):=by
  rw[hW1]
  refine⟨⟨ca (ca (ca (ca (ca (ca HB.out _) _) _) _) _) _⟩,aS.nil _ _ _ _ _,?_,Nat.zero_le _,.inl rfl,rfl⟩
  repeat (refine Below.setCell ?_ (by simp) _)
  rw[<-hW0]
  exact aB
 clear hW1 hW0 HB f0 c5 c6 c7 c8 c9 c10 hlt W0
 go_loopg [] (T.length+1) (fun n wr=>∃a v ts,Em w T a v ts wr/\T.length+1<=a+n)
 case atStart=>exact⟨0,_,[],HI0.out,by omega⟩
 case round=>
  obtain⟨a,v,ts,hI,hga⟩:=hrel
  have HI:=ad hI
  have hlen:ts.length<=11:=by rw[hI.eq,List.length_take];have:=HTL.2;omega
  obtain⟨k,hk1,hk2⟩:=Ec HT.out a hI.le hI.head
  have hkT:k<=T.length:=by rcases hk2 with h|h<;>omega
  have hak:a<=k:=by rcases hk1 with h|h<;>omega
  have HK:=ad (aD hk1 hk2)
  clear hI HI0 hk1 hk2
  go_wp2_with fail
  refine(D4 wr w.heap.size T a a v HI.lex k HK.1 (by have:=HTL.1;omega) (vn HT.out a HI.le)).mono ?_
  rintro e w2 ⟨rfl,hl2,hF2⟩
  have hI2:=HI.after hl2 hF2
  obtain⟨L,hL⟩:∃L,1=L:=⟨_,rfl⟩
  have HL:=ad hL
  rw[hL]at hI2
  have HI2:=ad hI2
  clear hl2 hF2 hL hI2
  obtain⟨c0,c1,c2,c3,c4,hf⟩:=HI2.lex.cells
  rcases HK.2 with⟨hk,he⟩|⟨hk,hh,t,hs,ht1,he⟩
  ·subst hk
   have HE:=ad he
   clear he HK
   go_wp2_with fail
   go_quiet (fail)
   obtain⟨w3,hw3⟩:∃u,u=w2.drewN nq:=⟨_,rfl⟩
   have HI3:=ad (HI2.drewN nq)
   rw[<-hw3]at HI3⊢
   clear hw3 c0 c1 c2 c3 c4 hf HI2
   obtain⟨c0,c1,c2,c3,c4,hf⟩:=HI3.lex.cells
   obtain⟨A,cap,rfl⟩:=HI3.row.shape
   obtain⟨i0,z0,hi0,hz0,hz1,hz2,hz3⟩:=iV
   have hlt0:=HI3.lex.lt
   go_wp2_with fail
   go_region_law
    ((refine step_append_lies _ (by rfl) _ _ _ (by rfl) (w.heap.size+1) 139 i0 _ 6 48 underlying67 hi0 hz0 hz1 hz2 hz3 (by omega) (.slice A ts.length cap) ts.length (ts.flatMap bC) (by rfl) (HI3.row.later (by(repeat (first|exact aA|refine Below.drew ?_|refine Below.alloc ?_ aC _)))).own
       ⟨w3.heap.size,0,none⟩ 1 1 (bC ⟨0,(L:Int),0,[],false,false⟩) (by rfl) (by rfl) (World.news_of_block (cs:=(bC ⟨0,(L:Int),0,[],false,false⟩).toArray) (t:=139) (fr:=(0,0)) (by exact heap_alloc_new w3 _)) (fJ _)
       (by omega) (by unfold maxLen;omega) (by omega) (by simp;omega) (w3.heap.size+1) (by simp) ?_;intro gg cap2 w9 hown9 hgrow hat9 hlt9))
   all_goals
    go_wp2_with fail
    refine bodyPost_ret (v:=.tuple #[al gg (ts.length+1) cap2,ae 0,ae 0]) (by simp[results,results24,go_sem]) rfl ?_
    refine⟨_,by rw[(vD HT.out).1,(vD HT.out).2],?_,HI3.ended (by(repeat (first|exact aA|refine Below.drew ?_|refine Below.alloc ?_ aC _))) hgrow⟩
    rw[HE.out,<-HI.eq]
    have hL:=HL.out
    subst hL
    exact(HI3.rowed hown9).down (Nat.le_succ _)
  ·have hne:((k:Int)==(T.length:Int))=false:=by rw[beq_eq_false_iff_ne];omega
   have HS:=ad (aD hs (aD hh he))
   clear hs hh he HK
   go_wp2_with fail
   go_quiet (fail)
   obtain⟨w3,hw3⟩:∃u,u=w2.drewN nq:=⟨_,rfl⟩
   have HI3:=ad (HI2.drewN nq)
   rw[<-hw3]at HI3⊢
   clear hw3 c0 c1 c2 c3 c4 hf HI2 hne
   go_wp2_with fail
   refine(DU w3 w.heap.size T k L a v HI3.lex HS.1 hkT (by have:=HTL.1;omega)).mono ?_
   rintro e w4 ⟨rfl,hb4⟩
   have HI4:=ad (HI3.later hb4)
   clear hb4 HI3
   unfold rV
   obtain⟨A,cap,rfl⟩:=HI4.row.shape
   obtain⟨c0,c1,c2,c3,c4,hf⟩:=HI4.lex.cells
   have hb4:=HI4.lex.lt
   have hmt:((ts.length:Int)==16384)=false:=by rw[beq_eq_false_iff_ne];omega
   have hmt2:(ts.length==16384)=false:=by rw[beq_eq_false_iff_ne];omega
   go_wp2_with fail
   have HI5:=ad (HI4.later (aA.alloc aC (.cells #[ae t.kind,ae 0,ae t.n,af t.s,.bool false,.bool false] 139)))
   refine(Cd _ (w.heap.size+1) w.heap.size T k L a _ ts HI5.lex HI5.row (Nat.lt_succ_self _) HI5.lex.lt (by omega) t 1 (by rw[ht1];rfl) (by omega) (by have:=HTL.1;omega) (by have:=HL.out;omega)).mono ?_
   rintro e w6 ⟨rfl,v',hl6,hr6,hF6⟩
   have HI6:Hid (Em w T (k+1) v' (ts++[⟨t.kind,1,t.n,t.s,oU T (k+1),tight ts k a⟩]) w6):=ad (by
    have hL:=HL.out
    subst hL
    have h0:=vn HT.out k hkT
    rw[ht1,h0]at hl6
    rw[ht1]at hr6
    exact⟨hl6,hr6,HI5.below.trans (hF6.below HI5.below.size (fun k hk e=>by omega)),by omega,HS.2.1,by rw[HS.2.2,<-HI.eq]⟩)
   clear hl6 hr6 hF6
   go_wp2_with fail
   go_roundg (T.length+1-(k+1))
   case measure=>have:=hga;omega
   case rel=>exact⟨k+1,_,_,HI6.out,by omega⟩
end
end Go.Proofs.YtigeofkllldilaaGreatDoor
