import Derived.Test.YtigeofkllldilaaGreatDoorJM33
import Derived.Shelf.Strings.Builder1
set_option maxHeartbeats 32000000
set_option maxRecDepth 100000
set_option linter.unusedSectionVars false
open Go.Proofs.Tryz
namespace Go.Proofs.YtigeofkllldilaaGreatDoor
section
open Go.RowKit
theorem Cj (u:World) (rb:Nat) (x:TV) (I:Nat->Int->World->Prop) (Q:World->Prop) (ho:∀n o w,I n o w->o=0\/o=1\/(o=3/\Q w))
 (hq:∀W,aE u W->Calls prog 104 #[ah rb,aU x] W fun e w=>∃n o,e=.returned (ae o)/\I n o w)
 (h0:∀n w,I n 0 w->Calls prog 105 #[ah rb] w fun e w'=>∃m o,m<n/\e=.returned (ae o)/\I m o w')
 (h1:∀n w,I n 1 w->Calls prog 106 #[ah rb] w fun e w'=>∃m o,m<n/\e=.returned (ae o)/\I m o w'):
 Calls prog 40 #[ah rb,aU x] u fun e w=>e=am/\Q w:=by
 have HO:=ad ho
 have H0:=ad h0
 have H1:=ad h1
 obtain⟨W,hW⟩:∃W,W=u.alloc (.cells #[ae x.k,ae x.n,af x.s,.slice x.A x.len x.cap] 27):=⟨_,rfl⟩
 have HQ:=ad (hq W (by rw[hW];exact aB))
 have hz:W.heap[u.heap.size]?=some (.cells #[ae x.k,ae x.n,af x.s,.slice x.A x.len x.cap] 27 (0,0)):=by rw[hW];exact az
 obtain⟨z0,z1,z2,z3,-⟩:=aH hz
 clear ho hq h0 h1 hz
 unfold aU at HQ⊢
 go_enter func40,ntmps40
 go_upto_region 1 with fail
 rw[<-hW]
 clear hW
 go_wp2_with fail
 refine HQ.mono ?_
 rintro e w1 ⟨n,o,rfl,hI⟩
 have HI:=ad hI
 clear hI HQ z0 z1 z2 z3
 go_wp2_with fail
 go_loopg [4] n (fun gk v wr=>∃o,v=ae o/\Hid (I gk o wr))
 case atStart=>exact⟨o,rfl,HI⟩
 case round=>
  obtain⟨o',rfl,HI'⟩:=hrel
  clear HI
  rcases HO.out _ _ _ HI'.out with rfl|rfl|⟨rfl,hQ⟩
  ·go_wp2_with fail
   refine(H0.out gk wr HI'.out).mono ?_
   rintro e w2 ⟨m,o2,hlt,rfl,hI2⟩
   have HI2:=ad hI2
   have HLT:=ad hlt
   clear hI2 hlt
   go_wp2_with fail
   go_roundg m
   case measure=>exact HLT.out
   case rel=>exact⟨o2,rfl,HI2⟩
  ·go_wp2_with fail
   refine(H1.out gk wr HI'.out).mono ?_
   rintro e w2 ⟨m,o2,hlt,rfl,hI2⟩
   have HI2:=ad hI2
   have HLT:=ad hlt
   clear hI2 hlt
   go_wp2_with fail
   go_roundg m
   case measure=>exact HLT.out
   case rel=>exact⟨o2,rfl,HI2⟩
  ·have HQQ:=ad hQ
   clear hQ
   go_wp2_with fail
   exact bodyPost_end (v:=.tuple #[]) (by simp[results,results40,go_sem]) rfl ⟨rfl,HQQ.out⟩
theorem yU:(prog.info? 5).map (fun i=>(i.zero,i.size,i.bytes))=some (some (.int .u8 0),1,1):=by kernel_rfl
theorem uY:(prog.info? 398).map (fun i=>i.size)=some 2:=by kernel_rfl
def yj (b:Nat) (w w':World):Prop:=∀j o,w.heap[j]?=some o->j≠b->(∀cs fr,o≠.cells cs 5 fr)->w'.heap[j]?=some o
theorem yj.refl (b:Nat) (w:World):yj b w w:=fun _ _ h _ _=>h
theorem yj.setCell {b:Nat} {w w':World} (h:yj b w w') (i:Nat) (u:Value):yj b w (w'.setCell (ak b i) u):=fun j o h1 h2 h3=>by
 rw[av _ _ _ _ (fun e=>h2 e)]
 exact h j o h1 h2 h3
theorem yj.grown {b B n:Nat} {w w' w'':World} {v:Value} {xs:List Value} (h:yj b w w') (hown:w'.ownsRow B 5 1 v n xs) (hg:w'.grownBy w'' v.ownBlock):yj b w w'':=fun j o h1 h2 h3=>by
 have h4:=h j o h1 h2 h3
 rw[hg.block j (ap h4).1 ?_]
 ·exact h4
 ·intro e
  rcases hown.2 with⟨rfl,_⟩|⟨g,cap,cur,rfl,_,hgg,_⟩
  ·cases e
  ·have:g=j:=by simpa[Value.ownBlock]using e.symm
   subst this
   rw[hgg]at h4
   injection h4 with h4
   exact h3 _ _ h4.symm
theorem tJ (b:Nat) (w:World) (h0:w.cell? (ak b 0)=some (ah b)):
 Calls prog 353 #[ah b] w fun e w'=>e=am/\w'=w:=by
 obtain⟨j,hj,_⟩:=Option.map_eq_some_iff.1 uY
 go_enter func353,ntmps353
 go_wp2
 rw[Lib.run_neq_ptr_same w _ underlying396 hj]
 go_wp2
 go_end0
 exact⟨rfl,rfl⟩
theorem qQ (b:Nat) (w:World) (h0:w.cell? (ak b 0)=some (.pointer none)) (hsh:w.shape? b=some (398,2)) (hfz:w.frozen? ⟨b,0,none⟩=false):
 Calls prog 353 #[ah b] w fun e w'=>e=am/\w'=w.setCell (ak b 0) (ah b):=by
 obtain⟨j,hj,hjs⟩:=Option.map_eq_some_iff.1 uY
 go_enter func353,ntmps353
 go_wp2
 rw[Lib.run_to_unsafe w ⟨b,0,none⟩ underlying396 underlying511 hj (by rw[hjs];decide) hsh (Nat.zero_lt_succ 1)]
 simp only[Result.andThen]
 rw[Oper.upon_value]
 go_wp2
 rw[run_callFunc_extern func383 (by kernel_rfl) (by kernel_rfl) (by kernel_rfl) (e:=Extern.AbiNoEscape.same) (by kernel_rfl)]
 rw[Lib.run_noEscape]
 simp only[Result.andThen]
 rw[Oper.upon_value]
 go_wp2
 rw[Lib.run_from_unsafe w ⟨b,0,none⟩ underlying511 underlying396 hj hsh (by kernel_rfl)]
 simp only[Result.andThen]
 rw[Oper.upon_value]
 go_wp2
 go_end0
 exact⟨rfl,rfl⟩
theorem tS (B b:Nat) (bs:List Value) (w:World) (h:Lib.IsBuilder 398 5 B b bs w):
 Calls prog 353 #[ah b] w fun e w'=>e=am/\(Lib.BuilderAt 398 5 B b (ah b) bs w'/\Below B w w'/\yj b w w'):=by
 rcases h with h|h
 ·refine(qQ b w h.cell0 h.shape h.frozen0).mono ?_
  rintro e w' ⟨rfl,rfl⟩
  exact⟨rfl,h.used _,(Below.refl B w).setCell (p:=(ak b 0)) h.1 _,(yj.refl b w).setCell 0 _⟩
 ·refine(tJ b w h.cell0).mono ?_
  rintro e w' ⟨rfl,rfl⟩
  exact⟨rfl,h,Below.refl B _,yj.refl b _⟩
theorem yY (B b:Nat) (bs:List Value) (s:ByteArray) (w:World) (h:Lib.IsBuilder 398 5 B b bs w) (hlen:bs.length+s.size<=140737488355328) (hBw:B<=w.heap.size):
 Calls prog 283 #[ah b,.string s] w fun e w'=>e=.returned (.tuple #[ae s.size,.nilIface])/\(Lib.BuilderAt 398 5 B b (ah b) (bs++Lib.strCells s) w'/\Below B w w'/\yj b w w'):=by
 obtain⟨i0,hi,hz0,hz1,hz2⟩:=info_parts yU
 go_enter func283,ntmps283
 go_wp2_with fail
 refine(tS B b bs _ h).mono ?_
 rintro e w1 ⟨rfl,h1,hb1,ho1⟩
 have HO:=ad ho1
 clear ho1
 obtain⟨hB,v,hbk,hown,hne⟩:=h1
 have c0:w1.cell? (ak b 0)=some (ah b):=by rw[Lib.cell_of_heap hbk];rfl
 have c1:w1.cell? (ak b 1)=some v:=by rw[Lib.cell_of_heap hbk];rfl
 go_wp2_with (at_builtin;refine Lib.wpList_append_own_string _ rfl _ _ 76 9 rfl B 5 i0 underlying76 underlying9 hi hz0 hz1 hz2 _ _ _ rfl hown s rfl ?c3 ?c4 ?c5 ?_)
 case c3=>unfold maxLen;omega
 case c4=>omega
 case c5=>have:=hb1.size;omega
 intro v' w2 hown' hgrow _
 have hlt:b<w1.heap.size:=by
  rcases Nat.lt_or_ge b w1.heap.size with h'|h'
  ·exact h'
  ·simp[Array.getElem?_eq_none h']at hbk
 have hb2:w2.heap[b]?=some (.cells #[ah b,v] 398 (0,0)):=by
  rw[hgrow.block b hlt (fun e=>hne e.symm)]
  exact hbk
 have d0:w2.cell? (ak b 0)=some (ah b):=by rw[Lib.cell_of_heap hb2];rfl
 have d1:w2.cell? (ak b 1)=some v:=by rw[Lib.cell_of_heap hb2];rfl
 have f1:w2.frozen? ⟨b,1,none⟩=false:=Lib.frozen_of_heap hb2 1
 obtain⟨ao,n',cap,rfl⟩:∃ao n' cap,v'=.slice ao n' cap:=by
  rcases hown'.2 with⟨hv,_⟩|⟨g,cap,cur,hv,_⟩
  ·exact⟨_,_,_,hv⟩
  ·exact⟨_,_,_,hv⟩
 go_wp2
 go_ret2
 refine⟨rfl,?_,?_,?_⟩
 ·exact Lib.BuilderAt.put (T:=398) (e:=5) hB hb2 (bs':=bs++Lib.strCells s) (by simpa[Lib.strCells_length]using hown') (by decide)
 ·exact(hb1.grown hgrow (by have:=hb1.size;omega) (fun k hk=>(hown.lt k hk).1)).setCell (p:=(ak b 1)) hB _
 ·exact(HO.grown hown hgrow).setCell 1 _
end
end Go.Proofs.YtigeofkllldilaaGreatDoor
namespace Go.Proofs
open Go.Shelf
def Tryz.lays169_ren:Go.Shelf.Ren:=⟨fun|169=>284|n=>n,fun|70=>396|9=>9|0=>0|72=>398|37=>76|127=>477|3=>3|5=>5|n=>n,fun|n=>n⟩
theorem Tryz.lays169:Go.Proofs.Lays.n169 prog Tryz.lays169_ren:= {
 mixed:=by kernel_rfl
 f169:=func284.trans (congrArg some (by kernel_rfl))
 t0:=underlying0
 a0:=Tryz.isAgg0
 z0:=Tryz.sizeOf0
 v0:=Tryz.zeroValue0
 t3:=underlying3
 a3:=Tryz.isAgg3
 z3:=Tryz.sizeOf3
 v3:=Tryz.zeroValue3
 t9:=underlying9
 a9:=Tryz.isAgg9
 z9:=Tryz.sizeOf9
 v9:=Tryz.zeroValue9
 t37:=underlying76
 a37:=Tryz.isAgg76
 z37:=Tryz.sizeOf76
 v37:=Tryz.zeroValue76
 t70:=underlying396
 a70:=Tryz.isAgg396
 z70:=Tryz.sizeOf396
 v70:=Tryz.zeroValue396
 t72:=underlying398
 a72:=Tryz.isAgg398
 z72:=Tryz.sizeOf398
 v72:=Tryz.zeroValue398
 t127:=underlying477
 a127:=Tryz.isAgg477
 z127:=Tryz.sizeOf477
 v127:=Tryz.zeroValue477}
theorem Tryz.Builder_Extra_169:Builder.Extra prog Tryz.lays169_ren:= {
 sizeBuilder:=by kernel_rfl
 liesBuilder:=by kernel_rfl
 t5:=underlying5
 a5:=Tryz.isAgg5
 z5:=Tryz.sizeOf5
 v5:=Tryz.zeroValue5
 infoByte:=by kernel_rfl
 cellsByte:=by kernel_rfl
 sizeByte:=by kernel_rfl
 neB5:=by decide}
open Go.RowKit in
theorem Tryz.Builder_String_any (B b:Nat) (l:List UInt8) (w:World) (h:Lib.IsBuilder 398 5 B b (Lib.byteCells l) w) (hBw:B<=w.heap.size):
 Calls prog 284 #[ah b] w fun e w'=>e=.returned (af l)/\Below B w w':=Any.Builder_String_any Tryz.lays169 Tryz.Builder_Extra_169 B b l w h hBw
end Go.Proofs
namespace Go.Proofs.YtigeofkllldilaaGreatDoor
section
open Go.RowKit
theorem oE (w:World):Lib.IsBuilder 398 5 w.heap.size w.heap.size (Lib.byteCells []) (w.alloc (.cells #[.pointer none,aj] 398)):=
 .inl ⟨aC,_,heap_alloc_new w _,World.ownsRow_nil _ _ _ _,by simp[Value.ownBlock]⟩
theorem kV {T e:TypeId} {B b:Nat} {bs:List Value} {w w':World} (h:Lib.IsBuilder T e B b bs w) (hb:aE w w'):Lib.IsBuilder T e B b bs w':=by
 have key:∀p,Lib.BuilderAt T e B b p bs w->Lib.BuilderAt T e B b p bs w':=by
  rintro p ⟨hB,v,hbk,hown,hne⟩
  have hlt:b<w.heap.size:=by
   rcases Nat.lt_or_ge b w.heap.size with h'|h'
   ·exact h'
   ·simp[Array.getElem?_eq_none h']at hbk
  refine⟨hB,v,by rw[hb.block b hlt];exact hbk,⟨hown.1,?_⟩,hne⟩
  rcases hown.2 with hn|⟨g,cap,cur,rfl,hg,hgg,rest⟩
  ·exact .inl hn
  ·have hglt:g<w.heap.size:=(ap hgg).1
   exact .inr ⟨g,cap,cur,rfl,hg,by rw[hb.block g hglt];exact hgg,rest⟩
 exact h.imp (key _) (key _)
theorem xW (l:List UInt8):Lib.strCells ⟨l.toArray⟩=Lib.byteCells l:=rfl
theorem mr (a b:List UInt8):Lib.byteCells a++Lib.byteCells b=Lib.byteCells (a++b):=by
 unfold Lib.byteCells
 rw[List.map_append]
theorem iR (a:List UInt8):(Lib.byteCells a).length=a.length:=by unfold Lib.byteCells;rw[List.length_map]
theorem fE (B b:Nat) (l s:List UInt8) (w:World) (h:Lib.IsBuilder 398 5 B b (Lib.byteCells l) w) (hlen:l.length+s.length<=200000000) (hBw:B<=w.heap.size):
 Calls prog 283 #[ah b,af s] w fun e w'=>(∃v,e=.returned v)/\Lib.IsBuilder 398 5 B b (Lib.byteCells (l++s)) w'/\Below B w w':=by
 refine(yY B b _ ⟨s.toArray⟩ w h (by rw[iR];show l.length+s.toArray.size<=_;rw[List.size_toArray];omega) hBw).mono ?_
 rintro e w' ⟨rfl,h1,h2,-⟩
 rw[xW,mr]at h1
 exact⟨⟨_,rfl⟩,.inr h1,h2⟩
theorem iG (B b:Nat) (l:List UInt8) (w:World) (h:Lib.IsBuilder 398 5 B b (Lib.byteCells l) w):
 Calls prog 282 #[ah b] w fun e w'=>e=.returned (ae (l.length:Nat))/\w'=w:=by
 obtain⟨n,A,c,p,hn,hc⟩:∃(n:Nat) (A:Option Addr) (c:Nat) (p:Value),n=l.length/\w.heap[b]?=some (.cells #[p,.slice A n c] 398 (0,0)):=by
  have key:∀p,Lib.BuilderAt 398 5 B b p (Lib.byteCells l) w->∃(n:Nat) (A:Option Addr) (c:Nat) (p:Value),n=l.length/\w.heap[b]?=some (.cells #[p,.slice A n c] 398 (0,0)):=by
   rintro p ⟨hB,v,hbk,hown,hne⟩
   rw[iR]at hown
   rcases hown.2 with⟨rfl,h0⟩|⟨g,cap,cur,rfl,_⟩
   ·exact⟨0,none,0,p,h0.symm,hbk⟩
   ·exact⟨_,_,_,p,rfl,hbk⟩
  exact h.elim (key _) (key _)
 have c1:w.cell? (ak b 1)=some (.slice A n c):=by rw[Lib.cell_of_heap hc];rfl
 rw[<-hn]
 clear hn hc h
 go_enter func282,ntmps282
 go_wp2_with fail
 go_ret
 exact⟨rfl,rfl⟩
open Go.RowKit Go.Maps
variable[Base]
theorem sr (u:World) (rb:Nat) (r:RC) (l:List (Int×List UInt8)) (db ob:Nat) (spent:Int) (over:List UInt8) (h:aT u rb r l db ob spent over) (hnm:r.nm=aj) (ha:r.ans=0) (hm:r.most=1) (hl:l.length+1<=100000):
 Calls prog 197 #[ah rb] u fun e u'=>e=.returned (ae 3)/\∃v,aT u' rb {r with ev:=v,ans:=1} (l++[(1,[116,114,117,101])]) db ob spent over/\TF rI u u':=by
 refine aa fun P hP=>?_
 have HP:=ad hP
 obtain⟨U,hU⟩:∃U,U=u.alloc (.cells #[.pointer none,aj] 398):=⟨_,rfl⟩
 have hbU:aE u U:=by rw[hU];exact aB
 have hBl:Lib.IsBuilder 398 5 u.heap.size u.heap.size (Lib.byteCells []) U:=by rw[hU];exact oE u
 have hmm:=qs U
 obtain⟨W,hW⟩:∃W,W=(U.alloc (.map #[] 0)).alloc (.cells #[.map (some U.heap.size),ae 0] 338):=⟨_,rfl⟩
 have hbW:aE U W:=by rw[hW];exact aB.alloc (by simp) _
 have hbuW:aE u W:=hbU.trans (hbW.mono hbU.size)
 have HW:Hid (aT W rb r l db ob spent over/\Lib.IsBuilder 398 5 u.heap.size u.heap.size (Lib.byteCells []) W/\aE u W):=ad ⟨h.later hbuW,kV hBl hbW,hbuW⟩
 have c2:W.cell? (ak rb 2)=some aj:=(HW.1.run.get 2).trans (by show some r.nm=_;rw[hnm])
 have HA:=ad (aD h (aD ha (aD hm hl)))
 clear h hnm ha hm hl hP hbU hBl hbW hbuW
 go_enter func197,ntmps197
 go_upto_region 2 with fail
 rw[<-hU]
 clear hU
 go_upto_region 3 with fail
 rw[<-hW]
 clear hW hmm
 go_wp2_with fail
 clear c2
 go_loopw [21] (fun i wr=>i=ae 0/\Hid (wr=W)) (fun _ _=>0)
 case atStart=>exact⟨rfl,ad rfl⟩
 case round=>
  obtain⟨rfl,HE⟩:=hrel
  obtain rfl:=HE.out
  go_wp2_with fail
  refine(iG _ _ _ _ HW.2.1).mono ?_
  rintro e w1 ⟨rfl,rfl⟩
  go_wp2_with fail
  refine(fE _ _ [] [116,114,117,101] _ HW.2.1 (by simp) HW.2.2.size).mono ?_
  rintro e w1 ⟨⟨v,rfl⟩,h1,h2⟩
  have HB1:=ad (aD h1 (HW.2.2.trans h2))
  clear h1 h2
  go_wp2_with fail
  refine(Tryz.Builder_String_any _ _ [116,114,117,101] w1 HB1.1 HB1.2.size).mono ?_
  rintro e w2 ⟨rfl,h3⟩
  have HB2:=ad (HB1.2.trans h3)
  have HR2:=ad (HA.1.later HB2.out)
  clear h3
  go_wp2_with fail
  refine(gJ w2 rb r l 1 [116,114,117,101] HR2.run HR2.ev HR2.few.1 HR2.few.2.1).mono ?_
  rintro e w3 ⟨rfl,v3,g1,g2,g3⟩
  have HR3:Hid (aT w3 rb {r with ev:=v3} (l++[(1,[116,114,117,101])]) db ob spent over/\TF rI u w3):=ad ⟨⟨g1,g2,(g3.block ⟨_,HR2.mach⟩ (by decide)).trans HR2.mach,by simpa using HA.2.2.2,HR2.few.2⟩,(TF.of_below rI HB2.out).trans (g3.mono (by decide))⟩
  clear g1 g2 g3
  have c5:w3.cell? (ak rb 5)=some (ae 0):=(HR3.1.run.get 5).trans (by show some (ae r.ans)=_;rw[HA.2.1])
  have cf:=HR3.1.run.fz
  have hlt:=HR3.1.run.lt
  obtain⟨X,hX⟩:∃X,X=w3.setCell (ak rb 5) (ae 1):=⟨_,rfl⟩
  have h9:=HR3.1.put (r':= {r with ev:=v3,ans:=1}) 5 (ae 1) rfl rfl rfl
  rw[<-hX]at h9
  have HX:Hid (aT X rb {r with ev:=v3,ans:=1} (l++[(1,[116,114,117,101])]) db ob spent over/\TF rI u X):=ad ⟨h9.1,HR3.2.trans (h9.2.mono (by decide))⟩
  clear h9
  go_upto_region 27 with fail
  rw[<-hX]
  clear hX c5 cf hlt
  have d5:X.cell? (ak rb 5)=some (ae 1):=HX.1.run.get 5
  have d4:X.cell? (ak rb 4)=some (ae 1):=(HX.1.run.get 4).trans (by show some (ae r.most)=_;rw[HA.2.2.1])
  go_region
  go_wp2_with fail
  have HQ:Hid (P (.returned (ae 3)) X.drew):=ad (by
   rw[HP.out]
   have hb:aE X X.drew:=aA.drew
   exact⟨rfl,v3,HX.1.later hb,HX.2.later hb⟩)
  exact HQ.out
end
section
open Go.RowKit
theorem va (u:World) (rb:Nat) (x:TV) (I:Nat->Int->World->Prop) (Q:World->Prop) (ho:∀n o w,I n o w->o=0\/o=1\/o=2\/(o=3/\Q w))
 (hq:∀W,aE u W->Calls prog 104 #[ah rb,aU x] W fun e w=>∃n o,e=.returned (ae o)/\I n o w)
 (h0:∀n w,I n 0 w->Calls prog 105 #[ah rb] w fun e w'=>∃m o,m<n/\e=.returned (ae o)/\I m o w')
 (h1:∀n w,I n 1 w->Calls prog 106 #[ah rb] w fun e w'=>∃m o,m<n/\e=.returned (ae o)/\I m o w')
 (h2:∀n w,I n 2 w->Calls prog 107 #[ah rb] w fun e w'=>∃m o,m<n/\e=.returned (ae o)/\I m o w'):
 Calls prog 40 #[ah rb,aU x] u fun e w=>e=am/\Q w:=by
 have HO:=ad ho
 have H0:=ad h0
 have H1:=ad h1
 have H2:=ad h2
 obtain⟨W,hW⟩:∃W,W=u.alloc (.cells #[ae x.k,ae x.n,af x.s,.slice x.A x.len x.cap] 27):=⟨_,rfl⟩
 have HQ:=ad (hq W (by rw[hW];exact aB))
 have hz:W.heap[u.heap.size]?=some (.cells #[ae x.k,ae x.n,af x.s,.slice x.A x.len x.cap] 27 (0,0)):=by rw[hW];exact az
 obtain⟨z0,z1,z2,z3,-⟩:=aH hz
 clear ho hq h0 h1 h2 hz
 unfold aU at HQ⊢
 go_enter func40,ntmps40
 go_upto_region 1 with fail
 rw[<-hW]
 clear hW
 go_wp2_with fail
 refine HQ.mono ?_
 rintro e w1 ⟨n,o,rfl,hI⟩
 have HI:=ad hI
 clear hI HQ z0 z1 z2 z3
 go_wp2_with fail
 go_loopg [4] n (fun gk v wr=>∃o,v=ae o/\Hid (I gk o wr))
 case atStart=>exact⟨o,rfl,HI⟩
 case round=>
  obtain⟨o',rfl,HI'⟩:=hrel
  clear HI
  rcases HO.out _ _ _ HI'.out with rfl|rfl|rfl|⟨rfl,hQ⟩
  ·go_wp2_with fail
   refine(H0.out gk wr HI'.out).mono ?_
   rintro e w2 ⟨m,o2,hlt,rfl,hI2⟩
   have HI2:=ad hI2
   have HLT:=ad hlt
   clear hI2 hlt
   go_wp2_with fail
   go_roundg m
   case measure=>exact HLT.out
   case rel=>exact⟨o2,rfl,HI2⟩
  ·go_wp2_with fail
   refine(H1.out gk wr HI'.out).mono ?_
   rintro e w2 ⟨m,o2,hlt,rfl,hI2⟩
   have HI2:=ad hI2
   have HLT:=ad hlt
   clear hI2 hlt
   go_wp2_with fail
   go_roundg m
   case measure=>exact HLT.out
   case rel=>exact⟨o2,rfl,HI2⟩
  ·go_wp2_with fail
   refine(H2.out gk wr HI'.out).mono ?_
   rintro e w2 ⟨m,o2,hlt,rfl,hI2⟩
   have HI2:=ad hI2
   have HLT:=ad hlt
   clear hI2 hlt
   go_wp2_with fail
   go_roundg m
   case measure=>exact HLT.out
   case rel=>exact⟨o2,rfl,HI2⟩
  ·have HQQ:=ad hQ
   clear hQ
   go_wp2_with fail
   exact bodyPost_end (v:=.tuple #[]) (by simp[results,results40,go_sem]) rfl ⟨rfl,HQQ.out⟩
end
end Go.Proofs.YtigeofkllldilaaGreatDoor
