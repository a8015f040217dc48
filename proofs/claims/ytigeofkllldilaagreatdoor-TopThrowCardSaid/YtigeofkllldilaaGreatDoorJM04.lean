import Derived.Test.YtigeofkllldilaaGreatDoorJM03
import Derived.Deep.RegionHeld3
import Derived.Deep.DeepCutAuto
import Derived.StillTailTactics
set_option maxHeartbeats 32000000
set_option maxRecDepth 100000
set_option linter.unusedSectionVars false
open Go.Proofs.Tryz
namespace Go.Proofs.YtigeofkllldilaaGreatDoor
section
open Go.RowKit Go.Maps
variable[Base]
section
variable {sb room:Nat} {u u':World} {cv bv:Value} {xs:List ec} {cs:List Sc} {ys:List (Nat×Int)} {bs:List Nat}
theorem aL.slice (h:aL sb room u cv bv xs cs ys):∃A c,cv=.slice A cs.length c:=by
 obtain⟨A,c,e⟩:=h.row.shape
 exact⟨A,c,by rw[e,h.len]⟩
theorem gL (h:aL sb room u cv bv xs cs ys) (i:Int):Calls prog 262 #[ah sb,ae i] u fun e u'=>e=.returned (.bool (decide (0<=i/\i<(cs.length:Int))))/\u=u':=by
 obtain⟨A,c,rfl⟩:=h.slice
 obtain⟨-,c1,-,-⟩:=h.cells
 have hl:=h.lt
 clear h
 by_cases h0:0<=i
 ·by_cases h1:i<(cs.length:Int)
  ·rw[decide_eq_true ⟨h0,h1⟩]
   go_enter func262,ntmps262
   go_wp2_with fail
   go_ret
   exact⟨rfl,rfl⟩
  ·rw[decide_eq_false (fun e=>h1 e.2)]
   go_enter func262,ntmps262
   go_wp2_with fail
   go_ret
   exact⟨rfl,rfl⟩
 ·rw[decide_eq_false (fun e=>h0 e.1)]
  go_enter func262,ntmps262
  go_wp2_with fail
  go_ret
  exact⟨rfl,rfl⟩
inductive ol (cs:List Sc):Nat->Nat->Nat->Prop
 |here {i:Nat} {c:Sc} (h:cs[i]?=some c) (ht:c.to=none):ol cs 0 i i
 |step {n i j r:Nat} {c:Sc} (h:cs[i]?=some c) (ht:c.to=some j) (hr:ol cs n j r):ol cs (n+1) i r
omit[Base]in
theorem bP.count {i j:Nat} (h:bP cs i j):∃n,ol cs n i j:=by
 induction h with
 |here h ht=>exact⟨0,.here h ht⟩
 |step h ht _ ih=>
  obtain⟨n,hn⟩:=ih
  exact⟨n+1,.step h ht hn⟩
theorem fD (h:aL sb room u cv bv xs cs ys) {i j:Nat} (hr:bP cs i j):Calls prog 263 #[ah sb,ae (i:Nat)] u fun e u'=>e=.returned (ae (j:Nat))/\u=u':=by
 obtain⟨n,hn⟩:=hr.count
 have HN:=ad hn
 have H:=ad h
 obtain⟨-,c1,-,-⟩:=h.cells
 have hl:=h.lt
 clear h hn hr
 go_enter func263,ntmps263
 go_wp2_with fail
 go_loopg [1] n (fun gk v wr=>∃k:Nat,v=ae (k:Nat)/\u=wr/\Hid (ol cs gk k j))
 case atStart=>exact⟨i,rfl,rfl,HN⟩
 case round=>
  obtain⟨k,rfl,rfl,HR⟩:=hrel
  clear HN
  obtain⟨c,hc⟩:∃c,cs[k]?=some c:=by cases HR.out<;>exact⟨_,by assumption⟩
  obtain⟨g,cap,x,e1,-,-,-,-,-,-,-,-,-,d4,-⟩:=H.at hc
  have hk1:(k:Int)<(cs.length:Int):=by have:=(aq hc).1;omega
  have hk0:(0:Int)<=(k:Int):=by omega
  rw[e1]at c1
  cases ht:c.to with
  |none=>
   rw[ht]at d4
   have hkj:k=j:=by
    cases HR.out with
    |here=>rfl
    |step h2 h3 _=>
     rw[hc]at h2
     injection h2 with h2
     subst h2
     rw[ht]at h3
     cases h3
   have d4':u.cell? (ak g (k*6+4))=some (ae (-1)):=d4
   subst hkj
   clear d4 ht e1
   go_wp2_with fail
   go_ret
   exact⟨rfl,rfl⟩
  |some k'=>
   rw[ht]at d4
   have d4':u.cell? (ak g (k*6+4))=some (ae (k':Nat)):=d4
   have hkk:(0:Int)<=(k':Int):=by omega
   have HNX:Hid (gk-1<gk/\ol cs (gk-1) k' j):=by
    cases HR.out with
    |here h2 h3=>
     rw[hc]at h2
     injection h2 with h2
     subst h2
     rw[ht]at h3
     cases h3
    |step h2 h3 h4=>
     rw[hc]at h2
     injection h2 with h2
     subst h2
     rw[ht]at h3
     injection h3 with h3
     subst h3
     exact ad ⟨by omega,h4⟩
   clear d4 ht e1
   go_wp2_with fail
   go_roundg (gk-1)
   case measure=>exact HNX.1
   case rel=>exact⟨k',rfl,rfl,ad HNX.2⟩
theorem ii (h:aL sb room u cv bv xs cs ys) {i j:Nat} (hr:bP cs i j):Calls prog 199 #[ah sb,ae (i:Nat)] u fun e u'=>e=.returned (ae (j:Nat))/\u=u':=by
 have H:=ad h
 have HR:=ad hr
 have hd:decide (0<=(i:Int)/\(i:Int)<(cs.length:Int))=true:=decide_eq_true ⟨by omega,by have:=hr.lt;omega⟩
 have HD:=ad hd
 clear h hr hd
 go_enter func199,ntmps199
 go_wp2_with fail
 refine(gL H.out _).mono ?_
 rintro e w1 ⟨rfl,rfl⟩
 rw[HD.out]
 go_wp2_with fail
 refine(fD H.out HR.out).mono ?_
 rintro e w1 ⟨rfl,rfl⟩
 go_wp2_with fail
 go_ret
 exact⟨rfl,rfl⟩
theorem zJ (h:aL sb room u cv bv xs cs ys):Calls prog 157 #[ah sb] u fun e u'=>e=.returned (ae (ys.length:Nat))/\u=u':=by
 obtain⟨A,c,rfl⟩:=h.bonds.shape
 obtain⟨-,-,c2,-⟩:=h.cells
 have hl:=h.lt
 clear h
 go_enter func157,ntmps157
 go_wp2_with fail
 go_ret
 exact⟨rfl,rfl⟩
def di (j:Nat) (c:Sc):TV:=if c.k=1 then⟨1,j,[],none,0,0⟩else⟨c.k,c.n,c.s,none,0,0⟩
theorem oO (h:aL sb room u cv bv xs cs ys) {j:Nat} {c:Sc} (hc:cs[j]?=some c):Calls prog 264 #[ah sb,ae (j:Nat)] u fun e u'=>e=.returned (aU (di j c))/\aE u u':=by
 obtain⟨g,cap,x,rfl,h1,h2,-,-,-,d0,d1,d2,-,-,-⟩:=h.at hc
 obtain⟨-,c1,-,-⟩:=h.cells
 have hl:=h.lt
 have hk1:(j:Int)<(cs.length:Int):=by have:=(aq hc).1;omega
 have hk0:(0:Int)<=(j:Int):=by omega
 clear h hc
 obtain⟨k,n,s,l,t⟩:=c
 simp only at d0 d1 d2
 unfold di aU
 by_cases hk:k=1
 ·subst hk
  simp only[if_true]
  go_enter func264,ntmps264
  go_wp2_with fail
  obtain⟨z0,z1,z2,z3,-⟩:=aH (heap_alloc_new u (.cells #[ae 1,ae (j:Nat),ai,aj] 27))
  exact bodyPost_ret (v:=.agg #[ae 1,ae (j:Nat),ai,aj]) (by simp[results,results264,go_sem,z0,z1,z2,z3]) rfl ⟨rfl,aB⟩
 ·simp only[if_neg hk]
  have hb:(k==1)=false:=beq_eq_false_iff_ne.2 hk
  go_enter func264,ntmps264
  go_upto_region 4 with fail
  obtain⟨W,hW⟩:∃W,W=u.alloc (.cells #[ae 0,ae 0,ai,aj] 27):=⟨_,rfl⟩
  have hb:aE u W:=by rw[hW];exact aB
  have hz:W.heap[u.heap.size]?=some (.cells #[ae 0,ae 0,ai,aj] 27 (0,0)):=by rw[hW];exact az
  rw[<-hW]
  obtain⟨z0,z1,z2,z3,zf⟩:=aH hz
  have HB:=ad hb
  have q0:=(hb.cell (p:=(ak g (j*6))) h2).trans d0
  have q1:=(hb.cell (p:=(ak g (j*6+1))) h2).trans d1
  have q2:=(hb.cell (p:=(ak g (j*6+2))) h2).trans d2
  clear hW hb d0 d1 d2 c1
  go_still_tail 13,(by kernel_rfl)
  go_wp2_with fail
  obtain⟨WF,hWF⟩:∃WF,WF=((((W.setCell (ak u.heap.size 0) (ae k)).setCell (ak u.heap.size 1) (ae n)).setCell (ak u.heap.size 2) (af s)).setCell (ak u.heap.size 3) aj):=⟨_,rfl⟩
  have hf:=bc hz rfl (ae k) (ae n) (af s) aj
  have hbf:aE u WF:=by rw[hWF];exact(((HB.setCell (p:=(ak u.heap.size 0)) aC _).setCell (p:=(ak u.heap.size 1)) aC _).setCell (p:=(ak u.heap.size 2)) aC _).setCell (p:=(ak u.heap.size 3)) aC _
  rw[<-hWF]at hf⊢
  clear hWF z0 z1 z2 z3 zf
  obtain⟨z0,z1,z2,z3,-⟩:=aH hf
  exact bodyPost_ret (v:=.agg #[ae k,ae n,af s,aj]) (by simp[results,results264,go_sem,z0,z1,z2,z3]) rfl ⟨rfl,hbf.drew⟩
end
end
section
open Go.RowKit Go.Maps
variable[Base]
omit[Base]in
theorem rh:∃i z,prog.info? 3=some i/\i.zero=some z/\i.size=1/\i.bytes=8/\z.cells.size=1:=by
 refine⟨_,_,rfl,rfl,?_,?_,?_⟩<;>kernel_rfl
omit[Base]in
theorem oJ:∀l:List Nat,l.flatMap fq=l.map fun a=>(ae (a:Nat):Value)
 |[]=>rfl
 |a::r=>by rw[List.flatMap_cons,oJ r];rfl
omit[Base]in
theorem vO (u:World) (A:Option Addr) (c:Nat) (l:List Nat) (h:bn u A l) (hn:l.length<=100000):
 Calls prog 265 #[.slice A l.length c] u fun e u'=>∃A' c',e=.returned (.slice A' l.length c')/\bn u' A' l/\(∀b off,A'=some (ak b off)->u.heap.size<=b/\b<u'.heap.size)/\aE u u':=by
 have H:=ad h
 obtain⟨i0,z0,hi0,hz0,hz1,hz2,hz3⟩:=rh
 have q22:∀(w:World) (a:Option Addr) (n c n' c':Nat),(binOp .eql 178 (.slice a n c) (.slice none n' c')).run prog w=.ok (.bool a.isNone) w:=fun w a n c n' c'=>Lib.run_eql_slice_nil w _ _ a n c n' c' underlying178
 by_cases hl:l=[]
 ·subst hl
  obtain rfl:=h.nil rfl
  clear h
  go_enter func265,ntmps265
  go_wp2_with fail
  go_ret
  exact⟨none,0,rfl,H.out,fun b off e=>(by cases e),aA⟩
 ·obtain⟨a,ha⟩:∃a,l[0]?=some a:=by
   cases l with
   |nil=>exact absurd rfl hl
   |cons a r=>exact⟨a,rfl⟩
  obtain⟨b,off,rfl,hb,-⟩:=h.at' 0 a ha
  have hbl:=hb.lt
  clear h ha hb
  have hcell:∀(j:Nat) v,(l.flatMap fq)[j]?=some v->u.cell? (ak b (off+j))=some v:=fun j v hv=>by
   have e:l.flatMap fq=l.map fun a=>(ae (a:Nat):Value):=oJ l
   rw[e,List.getElem?_map]at hv
   cases hj:l[j]? with
   |none=>rw[hj]at hv;cases hv
   |some x=>
    rw[hj]at hv
    injection hv with hv
    obtain⟨b',off',e1,-,e3⟩:=H.at' j x hj
    injection e1 with e1
    injection e1 with e1 e2
    subst e1 e2
    rw[e3,<-hv]
  have HC:=ad hcell
  clear hcell
  go_enter func265,ntmps265
  go_wp2_with (at_builtin;refine bY rfl _ _ 178 rfl _ u.heap.size 3 i0 z0 1 8 fq underlying178 hi0 hz0 hz1 hz2 hz3 (by decide) dw qJ _ [] l rfl ⟨World.ownsRow_made u #[] 0 aC (Nat.zero_le _) rfl⟩ b off c rfl (fun j v hv=>(Lib.cell?_alloc_some _ (HC.out j v hv))) (by unfold maxLen;simp only[List.length_nil];omega) (by simp only[List.length_nil];omega) (by simp) ?_)
  intro v' w1 hr hg
  obtain⟨A',c',rfl⟩:=hr.shape
  have HA:=ad (bn.row hr hl)
  have HL:Hid (∀b off,A'=some (ak b off)->u.heap.size<=b/\b<w1.heap.size):=ad fun b off e=>by
   obtain⟨g,cap,e1,e2,e3,-,-⟩:=hr.cells dw hl
   injection e1 with e1
   rw[e]at e1
   injection e1 with e1
   injection e1 with e1
   subst e1
   exact⟨e2,e3⟩
  have HB:Hid (aE u w1):=ad (((Below.refl _ u).alloc aC _).grown hg (by simp) (by intro k hk;simp[Value.ownBlock]at hk;omega))
  clear hr hg
  go_wp2_with fail
  go_ret
  exact⟨A',c',rfl,HA.out,HL.out,HB.out⟩
omit[Base]in
theorem uS {S:Nat->Prop} {w W:World} (h:Fr S w W) {b:Nat} (hb:S b) (a0 a1 a2 a3:Value):Fr S w ((((W.setCell (ak b 0) a0).setCell (ak b 1) a1).setCell (ak b 2) a2).setCell (ak b 3) a3):=
 (((h.setCell (p:=(ak b 0)) (.inl hb) _).setCell (p:=(ak b 1)) (.inl hb) _).setCell (p:=(ak b 2)) (.inl hb) _).setCell (p:=(ak b 3)) (.inl hb) _
section
variable {sb room:Nat} {u u':World} {cv bv:Value} {xs:List ec} {cs:List Sc} {ys:List (Nat×Int)} {bs:List Nat}
theorem aL.few' (h:aL sb room u cv bv xs cs ys):cs.length<=16777216:=Nat.le_trans h.few h.room.1
theorem fo (h:aL sb room u cv bv xs cs ys) {i j:Nat} {c:Sc} (hr:bP cs i j) (hc:cs[j]?=some c) (ha:c.args.length<=100000):
 Calls prog 163 #[ah sb,ae (i:Nat)] u fun e u'=>∃A' c',e=.returned (.tuple #[aU (di j c),.slice A' c.args.length c'])/\bn u' A' c.args/\(∀b off,A'=some (ak b off)->u.heap.size<=b/\b<u'.heap.size)/\aE u u':=by
 have H:=ad h
 have HR:=ad hr
 have HC:=ad hc
 have hd:decide (0<=(i:Int)/\(i:Int)<(cs.length:Int))=true:=decide_eq_true ⟨by omega,by have:=hr.lt;omega⟩
 have HD:=ad hd
 have hjl:=(aq hc).1
 obtain⟨W,hW⟩:∃W,W=u.alloc (.cells #[ae 0,ae 0,ai,aj] 27):=⟨_,rfl⟩
 have hbW:aE u W:=by rw[hW];exact aB
 have hz:W.heap[u.heap.size]?=some (.cells #[ae 0,ae 0,ai,aj] 27 (0,0)):=by rw[hW];exact az
 obtain⟨g,cap,x,hcv,g1,g2,-,ho,-,-,-,-,d3,-,-⟩:=(h.later hbW).at hc
 subst hcv
 obtain⟨-,c1,-,-⟩:=(h.later hbW).cells
 have HW:=ad (h.later hbW)
 have HA:=ad ho.args
 have HZ:=ad hz
 have HB:=ad hbW
 have hk0:(0:Int)<=(j:Int):=by omega
 have hk1:(j:Int)<(cs.length:Int):=by omega
 have hsl:=(h.later hbW).lt
 clear h hr hc hd hbW hz ho
 refine aa fun P hP=>?_
 have HP:=ad hP
 clear hP
 go_enter func163,ntmps163
 go_upto_region 1 with fail
 rw[<-hW]
 clear hW
 go_wp2_with fail
 refine(gL HW.out _).mono ?_
 rintro e w1 ⟨rfl,rfl⟩
 rw[HD.out]
 go_wp2_with fail
 refine(fD HW.out HR.out).mono ?_
 rintro e w1 ⟨rfl,rfl⟩
 have hrl:u.heap.size<W.heap.size:=(ap HZ.out).1
 have HSV:Hid (∀v,Fr (·=u.heap.size) W v->v.cell? (ak sb 1)=some (al g cs.length cap)/\v.cell? (ak g (j*6+3))=some (.slice x.A c.args.length x.c)):=ad fun v hv=>by
  have h1:=(HW.row.lt g rfl)
  have h2:sb<u.heap.size:=H.lt
  have h3:aR W 378 g:=HW.row.ty rfl
  exact⟨(hv.cell (p:=(ak sb 1)) hsl (by show sb≠_;omega)).trans c1,(hv.cell (p:=(ak g (j*6+3))) g2 (h3.ne ⟨_,HZ.out⟩ (by decide))).trans d3⟩
 have HS4:Hid (∀v,Fr (·=u.heap.size) W v->((((v.setCell (ak u.heap.size 0) (ae (di j c).k)).setCell (ak u.heap.size 1) (ae (di j c).n)).setCell (ak u.heap.size 2) (.string ⟨(di j c).s.toArray⟩)).setCell (ak u.heap.size 3) (.slice (di j c).A (di j c).len (di j c).cap)).cell? (ak sb 1)=some (al g cs.length cap)/\((((v.setCell (ak u.heap.size 0) (ae (di j c).k)).setCell (ak u.heap.size 1) (ae (di j c).n)).setCell (ak u.heap.size 2) (.string ⟨(di j c).s.toArray⟩)).setCell (ak u.heap.size 3) (.slice (di j c).A (di j c).len (di j c).cap)).cell? (ak g (j*6+3))=some (.slice x.A c.args.length x.c)):=ad fun v hv=>HSV.out _ (uS hv rfl _ _ _ _)
 have HSH:Hid (∀v,aE W v->Calls prog 264 #[ah sb,ae (j:Nat)] v fun e u'=>e=.returned (aU (di j c))/\aE v u'/\aE W u'):=ad fun v hv=>(oO (HW.later hv) HC.out).mono (by
  rintro e u' ⟨rfl,hb⟩
  exact⟨rfl,hb,hv.trans (hb.mono hv.size)⟩)
 have HCL:Hid (∀v,Fr (·=u.heap.size) W v->Calls prog 265 #[.slice x.A c.args.length x.c] v fun e u'=>∃A' c',e=.returned (.slice A' c.args.length c')/\bn u' A' c.args/\(∀b off,A'=some (ak b off)->v.heap.size<=b/\b<u'.heap.size)/\aE v u'/\u'.heap[u.heap.size]?=v.heap[u.heap.size]?):=ad fun v hv=>(vO v x.A x.c c.args (HA.keep fun b hb=>hv.block b hb.lt (hb.ne ⟨_,HZ.out⟩ (by decide))) ha).mono (by
  rintro e u' ⟨A',c',rfl,h1,h0,h2⟩
  exact⟨A',c',rfl,h1,h0,h2,h2.block _ (Nat.lt_of_lt_of_le hrl hv.size)⟩)
 have hb0:=Below.refl W.heap.size W
 have hbd:aE W W.drew:=hb0.drew
 unfold aU at HSH
 obtain⟨z0,z1,z2,z3,zf⟩:=aH HZ.out
 clear HW HA c1 d3
 go_upto_region 4 with fail
 go_region_held3 (fun v=>v.cell? (ak sb 1)=some (al g cs.length cap)/\v.cell? (ak g (j*6+3))=some (.slice x.A c.args.length x.c))
  (first|(with_reducible exact HSV.out _ (Fr.refl _ _))|(with_reducible exact HSV.out _ (Fr.drew (Fr.refl _ _)))|(with_reducible exact HSV.out _ (Fr.step (Fr.drew (Fr.refl _ _)) hv1))|(with_reducible exact HSV.out _ (Fr.step (Fr.step (Fr.drew (Fr.refl _ _)) hv1) hv2))|(with_reducible exact HS4.out _ (Fr.step (Fr.step (Fr.drew (Fr.refl _ _)) hv1) hv2))|(with_reducible exact HS4.out _ (Fr.step (Fr.drew (Fr.refl _ _)) hv1))|(with_reducible exact HSV.out _ (Fr.step (uS (Fr.step (Fr.drew (Fr.refl _ _)) hv1) rfl _ _ _ _) hv2)))
  (first|(go_at_call 264;with_reducible refine(HSH.out _ (by first|assumption|exact Below.drew (by assumption))).mono ?_;rintro e w1 ⟨rfl,hv1,hb1⟩;have hz1:=(hb1.block _ hrl).trans HZ.out;have HZ1:=ad hz1;obtain⟨y0,y1,y2,y3,yf⟩:=aH hz1;clear hz1)|(go_at_call 265;with_reducible refine(HCL.out _ (by(repeat (first|exact Fr.refl _ _|refine Fr.setCell ?_ (.inl rfl) _|refine Fr.drew ?_|refine Fr.step ?_ hv1)))).mono ?_;rintro e w2 ⟨A',c',rfl,ha2,hn2,hv2,hk2⟩;(first|(have hz2:=hk2.trans HZ1.out;have HZ2:=ad hz2;obtain⟨y0,y1,y2,y3,yf⟩:=aH hz2;clear hz2)|(have hz2:=hk2.trans HZ.out;have HZ2:=ad hz2;obtain⟨y0,y1,y2,y3,yf⟩:=aH hz2;clear hz2)|skip)))
 all_goals
  go_wp2_with fail
  rw[HP.out]
  have hf:=bc HZ2.out rfl (ae (di j c).k) (ae (di j c).n) (.string ⟨(di j c).s.toArray⟩) (.slice (di j c).A (di j c).len (di j c).cap)
  have hB:=((((HB.trans ((hb1.trans (hv2.mono hb1.size)).mono HB.size)).setCell (p:=(ak u.heap.size 0)) aC (ae (di j c).k)).setCell (p:=(ak u.heap.size 1)) aC (ae (di j c).n)).setCell (p:=(ak u.heap.size 2)) aC (.string ⟨(di j c).s.toArray⟩)).setCell (p:=(ak u.heap.size 3)) aC (.slice (di j c).A (di j c).len (di j c).cap)
  have hNW0:∀b off,A'=some (ak b off)->u.heap.size<=b/\b<w2.heap.size:=fun b off e=>⟨Nat.le_trans HB.size (Nat.le_trans hb1.size (hn2 b off e).1),(hn2 b off e).2⟩
  obtain⟨WF,hWF⟩:∃WF,WF=((((w2.setCell (ak u.heap.size 0) (ae (di j c).k)).setCell (ak u.heap.size 1) (ae (di j c).n)).setCell (ak u.heap.size 2) (.string ⟨(di j c).s.toArray⟩)).setCell (ak u.heap.size 3) (.slice (di j c).A (di j c).len (di j c).cap)):=⟨_,rfl⟩
  have hA:bn WF A' c.args:=ha2.keep fun b hb=>by rw[hWF];exact aM _ _ _ _ (hb.ne ⟨_,HZ2.out⟩ (by decide))
  have hNW:∀b off,A'=some (ak b off)->u.heap.size<=b/\b<WF.heap.size:=by rw[hWF];simpa[World.setCell]using hNW0
  rw[<-hWF]at hf hB⊢
  clear hWF
  obtain⟨f0,f1,f2,f3,-⟩:=aH hf
  exact bodyPost_ret (v:=.tuple #[aU (di j c),.slice A' c.args.length c']) (by simp[results,results163,go_sem,f0,f1,f2,f3,aU]) rfl ⟨A',c',rfl,hA,hNW,hB⟩
end
end
section
open Go.RowKit Go.Maps
variable[Base]
section
variable {sb room:Nat} {u u':World} {cv bv:Value} {xs:List ec} {cs:List Sc} {ys:List (Nat×Int)} {bs:List Nat}
theorem aL.put {g cap:Nat} (h:aL sb room u (al g cs.length cap) bv xs cs ys) {i:Nat} {x:ec} {c:Sc} (hx:xs[i]?=some x) (hc:cs[i]?=some c) (t:Option Nat) (hf:zU (cP cs i c t)):
 aL sb room (u.setCell (ak g (i*6+4)) (ae (Ey t))) (al g cs.length cap) bv (xs.set i ⟨x.k,x.n,x.s,x.A,x.m,x.c,Ey t,x.top⟩) (cP cs i c t) ys:=by
 have hg:aR u 378 g:=h.row.ty rfl
 have hk:∀ {b t'},aR u t' b->t'≠378->(u.setCell (ak g (i*6+4)) (ae (Ey t))).heap[b]?=u.heap[b]?:=fun hb hn=>av _ _ _ _ (hb.ne hg hn)
 refine⟨(hk ⟨_,h.blk⟩ (by decide)).trans h.blk,h.row.put fI hx (by decide) rfl,h.bonds.keep fun k hk'=>hk (h.bonds.ty hk') (by decide),by rw[List.length_set,dE];exact h.len,fun j y d hy hd=>?_,by rw[dE];exact h.few,h.room,hf,fun j d hd a ha=>?_,fun j d hd=>?_,fun y hy=>by rw[dE];exact h.bnd y hy,h.many⟩
 ·by_cases e:j=i
  ·subst e
   rw[List.getElem?_set_self (aq hx).1]at hy
   rw[eF hc]at hd
   injection hy with hy
   injection hd with hd
   subst hy hd
   have ho:=h.ok j x c hx hc
   exact⟨ho.k,ho.n,ho.s,rfl,ho.m,ho.args.keep fun b hb=>hk hb (by decide),ho.short,ho.top⟩
  ·rw[List.getElem?_set_ne (Ne.symm e)]at hy
   rw[dg c t e]at hd
   have ho:=h.ok j y d hy hd
   exact⟨ho.k,ho.n,ho.s,ho.to,ho.m,ho.args.keep fun b hb=>hk hb (by decide),ho.short,ho.top⟩
 ·rw[dE]
  by_cases e:j=i
  ·subst e
   rw[eF hc]at hd
   injection hd with hd
   subst hd
   exact h.args j c hc a ha
  ·rw[dg c t e]at hd
   exact h.args j d hd a ha
 ·by_cases e:j=i
  ·subst e
   rw[eF hc]at hd
   injection hd with hd
   subst hd
   exact h.ar j c hc
  ·rw[dg c t e]at hd
   exact h.ar j d hd
theorem aL.pop {gb cap:Nat} {y:Nat×Int} (h:aL sb room u cv (al gb (ys.length+1) cap) xs cs (ys++[y])):aL sb room (u.setCell (ak sb 2) (al gb ys.length cap)) cv (al gb ys.length cap) xs cs ys:=by
 have hs:aR u 189 sb:=⟨_,h.blk⟩
 have hk:∀ {b t'},aR u t' b->t'≠189->(u.setCell (ak sb 2) (al gb ys.length cap)).heap[b]?=u.heap[b]?:=fun hb hn=>av _ _ _ _ (hb.ne hs hn)
 refine⟨aK h.blk _,h.row.keep fun k hk'=>hk (h.row.ty hk') (by decide),?_,h.len,fun j x c hx hc=>?_,h.few,h.room,h.flw,h.args,h.ar,fun z hz=>h.bnd z (List.mem_append_left _ hz),by have:=h.many;simp at this;omega⟩
 ·exact(aS.front gu h.bonds).keep fun k hk'=>hk ((aS.front gu h.bonds).ty hk') (by decide)
 ·have ho:=h.ok j x c hx hc
  exact⟨ho.k,ho.n,ho.s,ho.to,ho.m,ho.args.keep fun b hb=>hk hb (by decide),ho.short,ho.top⟩
def kH (cs:List Sc) (v:Nat):List Sc:=match cs[v]? with|some c=>cP cs v c none|none=>cs
theorem vR {y:Nat×Int} (h:aL sb room u cv bv xs cs (ys++[y])):
 Calls prog 273 #[ah sb] u fun e u'=>e=am/\(∃bv' xs',aL sb room u' cv bv' xs' (kH cs y.1) ys)/\TF lr u u':=by
 have hy:=h.bnd y (List.mem_append_right _ (List.mem_singleton.2 rfl))
 have hc:=au hy.1
 generalize cs[y.1]=c at hc
 obtain⟨g,cap,x,rfl,g1,g2,hx,-,gf,-,-,-,-,d4,-⟩:=h.at hc
 obtain⟨-,c1,c2,cf⟩:=h.cells
 obtain⟨gb,capb,e1,b1,b2,b3,b4⟩:=h.bonds.cells gu (by simp)
 rw[List.length_append,List.length_singleton]at e1 b3
 subst e1
 have q0:=(b4 ys.length y (by simp) 0 _ rfl).1
 rw[Nat.add_zero]at q0
 have hw:IntKind.i64.wrap (((ys.length+1:Nat):Int)-1)=(ys.length:Int):=by rw[IntWalk.i64_in _ (by have:=h.many;simp at this;omega)];omega
 have hw2:IntKind.i64.wrap (ys.length:Int)=(ys.length:Int):=IntWalk.i64_in _ (by have:=h.many;simp at this;omega)
 have hl:=h.lt
 have HF:=ad (h.flw.loose hc)
 have H:=ad h
 have HX:=ad hx
 have HC:=ad hc
 have hy1:((y.1:Nat):Int)<(cs.length:Int):=by omega
 have hy0:(0:Int)<=((y.1:Nat):Int):=by omega
 have hn0:(0:Int)<=(ys.length:Int):=by omega
 have hn1:(ys.length:Int)<((ys.length+1:Nat):Int):=by omega
 have hn2:(ys.length:Int)<(ys.length:Int)+1:=by omega
 have hn3:ys.length<ys.length+1:=by omega
 have hy2:y.1<cs.length:=hy.1
 clear h hx hc b4 hy
 obtain⟨v,tp⟩:=y
 simp only at q0 d4 hy1 hy0
 go_enter func273,ntmps273
 go_upto_region 1 with fail
 (refine wp_region_still_tail 14 (by kernel_rfl) (by kernel_rfl) ?_;simp only[List.take_succ_cons,List.take_zero,List.drop_succ_cons,List.drop_zero];repeat (with_reducible refine wpStill_step ?_;intro KK hKK;go_simp;with_reducible refine hKK _ ?_;clear hKK KK));try (with_reducible refine wpStill_nil ?_)
 go_wp2_with fail
 have h1:aL sb room (u.setCell (ak g (v*6+4)) (ae (-1))) _ _ _ (cP cs v c none) (ys++[(v,tp)]):=H.put HX.out HC.out none HF.out
 have h2:=h1.pop.later aA.drew
 have h3:=h2
 have ef:kH cs v=cP cs v c none:=by unfold kH;rw[HC.out]
 rw[<-ef]at h3
 exact bodyPost_end (v:=.tuple #[]) (by simp[results,results273,go_sem]) rfl ⟨rfl,⟨_,_,h3⟩,(((TF.refl lr u).set (p:=(ak g (v*6+4))) (t:=378) (H.row.ty rfl) (by decide) (H.rowge rfl) _).set (p:=(ak sb 2)) (t:=189) ⟨_,h1.blk⟩ (by decide) H.ge _).drew⟩
def gA (cs:List Sc) (l:List Nat):List Sc:=l.foldr (fun v cs=>kH cs v) cs
omit[Base]in
theorem wP (cs:List Sc) (v:Nat):(kH cs v).length=cs.length:=by
 unfold kH
 split
 ·exact dE ..
 ·rfl
omit[Base]in
theorem lu (cs:List Sc):∀l:List Nat,(gA cs l).length=cs.length
 |[]=>rfl
 |v::r=>(wP (gA cs r) v).trans (lu cs r)
omit[Base]in
theorem tx (cs:List Sc) (l:List Nat) (v:Nat):gA cs (l++[v])=gA (kH cs v) l:=by
 unfold gA
 rw[List.foldr_append]
 rfl
theorem nH (h:aL sb room u cv bv xs cs ys) (m:Nat) (hm:m<=ys.length):
 Calls prog 177 #[ah sb,ae (m:Nat)] u fun e u'=>e=am/\(∃bv' xs',aL sb room u' cv bv' xs' (gA cs ((ys.drop m).map (·.1))) (ys.take m))/\TF lr u u':=by
 have H:=ad h
 have hmx:max (m:Int) 0=(m:Int):=by omega
 have hl:=h.lt
 clear h
 refine aa fun P hP=>?_
 have HP:=ad hP
 clear hP
 go_enter func177,ntmps177
 go_wp2_with fail
 go_loopg [] (ys.length-m) (fun gk wr=>∃(cs':List Sc) (bv':Value) (xs':List ec),Hid (aL sb room wr cv bv' xs' cs' (ys.take (m+gk))/\TF lr u wr/\m+gk<=ys.length/\gA cs' (((ys.take (m+gk)).drop m).map (·.1))=gA cs ((ys.drop m).map (·.1))))
 case atStart=>exact⟨cs,bv,xs,ad ⟨by rw[show m+(ys.length-m)=ys.length by omega,List.take_length];exact H.out,TF.refl _ _,by omega,by rw[show m+(ys.length-m)=ys.length by omega,List.take_length]⟩⟩
 case round=>
  obtain⟨cs',bv',xs',HI⟩:=hrel
  clear H
  have hle:=HI.2.2.1
  obtain⟨A2,d2,rfl⟩:=HI.1.bonds.shape
  obtain⟨-,-,c2,-⟩:=HI.1.cells
  have hlw:=HI.1.lt
  have hlen:(ys.take (m+gk)).length=m+gk:=by rw[List.length_take];omega
  rw[hlen]at c2 HI
  obtain _|gk:=gk
  ·have hng:¬((m+0:Nat):Int)>(m:Int):=by omega
   have HQ:Hid (gA cs' []=gA cs ((ys.drop m).map (·.1))):=ad (by
    have:=HI.2.2.2
    rwa[Nat.add_zero,List.drop_eq_nil_of_le (by rw[List.length_take];omega)]at this)
   rw[Nat.add_zero]at c2
   clear hle hlen hng
   go_wp2_with fail
   have h3:aL sb room wr cv _ xs' (gA cs' []) (ys.take (m+0)):=HI.1
   rw[HQ.out]at h3
   exact bodyPost_end (v:=.tuple #[]) (by simp[results,results177,go_sem]) rfl (by rw[HP.out];exact⟨rfl,⟨_,_,h3⟩,HI.2.1⟩)
  ·obtain⟨y,hy⟩:∃y,ys[m+gk]?=some y:=⟨_,au (by omega)⟩
   have htk:ys.take (m+(gk+1))=ys.take (m+gk)++[y]:=by
    rw[<-Nat.add_assoc,List.take_add_one,hy]
    rfl
   have hgt:(m:Int)<((m+(gk+1):Nat):Int):=by omega
   have hgt2:(m:Int)<(m:Int)+((gk:Int)+1):=by omega
   rw[htk]at HI
   have HG:=ad (show m+gk<=ys.length by omega)
   clear hle hlen hy htk
   go_wp2_with fail
   refine(vR HI.1).mono ?_
   rintro e w2 ⟨rfl,⟨bv2,xs2,h2⟩,hf2⟩
   have HNX:=ad (aD h2 (HI.2.1.trans hf2))
   clear h2 hf2 c2
   go_wp2_with fail
   go_roundg gk
   case measure=>exact Nat.lt_succ_self _
   case rel=>
    refine⟨_,_,_,ad ⟨HNX.1,HNX.2,HG.out,?_⟩⟩
    rw[<-HI.2.2.2,List.drop_append_of_le_length (by rw[List.length_take];have:=HG.out;omega),List.map_append]
    exact(tx cs' _ y.1).symm
end
end
section
open Go.RowKit Go.Maps
variable[Base]
omit[Base]in
theorem yh:∃i z,prog.info? 473=some i/\i.zero=some z/\i.size=2/\i.bytes=16/\z.cells.size=2:=by
 refine⟨_,_,rfl,rfl,?_,?_,?_⟩<;>kernel_rfl
section
variable {sb room:Nat} {u u':World} {cv bv:Value} {xs:List ec} {cs:List Sc} {ys:List (Nat×Int)} {bs:List Nat}
theorem aL.push {u1 u2:World} {bv':Value} {y:Nat×Int} {o:Obj} (h:aL sb room u cv bv xs cs ys) (hr:aS u2 (sb+1) 473 2 rt bv' (ys++[y])) (hg:(u.alloc o).grownBy u2 bv.ownBlock) (h1:u1=u2.setCell (ak sb 2) bv') (hy:y.1<cs.length/\ -1<=y.2/\y.2<=100000000) (hm:ys.length+1<=100000000):
 aL sb room u1 cv bv' xs cs (ys++[y])/\TF lr u u1:=by
 have hk:∀ {b t'},aR u t' b->t'≠473->u2.heap[b]?=u.heap[b]?:=fun {b t'} hb hn=>by
  rw[hg.block b (by rw[World.size_alloc];have:=hb.lt;omega) fun e=>hn (hb.same (h.bonds.ty e.symm)),aw _ _ _ hb.lt]
 have hs:aR u 189 sb:=⟨_,h.blk⟩
 have hs2:u2.heap[sb]?=_:=(hk hs (by decide)).trans h.blk
 have hf2:TF lr u u2:=((TF.refl lr u).alloc o).grown hg fun g e=>by
  obtain⟨iy,h0⟩:=h.bonds.ty e
  exact .inl ⟨h.bdge e,473,by decide,iy,by rw[aw _ _ _ (ap h0).1];exact h0⟩
 subst h1
 have hk2:∀ {b t'},aR u t' b->t'≠473->t'≠189->(u2.setCell (ak sb 2) bv').heap[b]?=u.heap[b]?:=fun {b t'} hb hn hn'=>(av _ _ _ _ (hb.ne hs hn')).trans (hk hb hn)
 refine⟨⟨aK hs2 _,h.row.keep fun k hk'=>hk2 (h.row.ty hk') (by decide) (by decide),?_,h.len,fun j x c hx hc=>?_,h.few,h.room,h.flw,h.args,h.ar,fun z hz=>?_,by rw[List.length_append];exact hm⟩,hf2.set (p:=(ak sb 2)) (t:=189) ⟨_,hs2⟩ (by decide) h.ge _⟩
 ·exact hr.keep fun k hk'=>av _ _ _ _ ((hr.ty hk').ne (t':=189) ⟨_,hs2⟩ (by decide))
 ·have ho:=h.ok j x c hx hc
  exact⟨ho.k,ho.n,ho.s,ho.to,ho.m,ho.args.keep fun b hb=>hk2 hb (by decide) (by decide),ho.short,ho.top⟩
 ·rcases List.mem_append.1 hz with hz|hz
  ·exact h.bnd z hz
  ·rw[List.mem_singleton]at hz
   rw[hz]
   exact hy
theorem aL.grown_blk {u2:World} {o:Obj} (h:aL sb room u cv bv xs cs ys) (hg:(u.alloc o).grownBy u2 bv.ownBlock):u2.heap[sb]?=some (.cells #[ae (room:Nat),cv,bv] 189 (0,0)):=by
 rw[hg.block sb (by rw[World.size_alloc];have:=h.lt;omega) fun e=>(show 473≠189 by decide) ((h.bonds.ty e.symm).same ⟨_,h.blk⟩),aw _ _ _ h.lt]
 exact h.blk
theorem Aj (h:aL sb room u cv bv xs cs ys) {v t:Nat} {c:Sc} (hv:bP cs v v) (ht:bP cs t t) (hne:v≠t) (hc:cs[v]?=some c) (hk:c.k=1) (hm:ys.length+1<=100000000):
 Calls prog 417 #[ah sb,ae (v:Nat),ae (t:Nat)] u fun e u'=>e=.returned (ae 0)/\(∃bv' xs' tp,aL sb room u' cv bv' xs' (cP cs v c (some t)) (ys++[(v,tp)]))/\TF lr u u':=by
 obtain⟨i0,z0,hi0,hz0,hz1,hz2,hz3⟩:=yh
 have hc0:c.to=none:=by
  obtain⟨d,h1,h2⟩:=hv.free
  rw[hc]at h1
  injection h1 with h1
  rw[h1]
  exact h2
 have hdv:decide (0<=(v:Int)/\(v:Int)<(cs.length:Int))=true:=decide_eq_true ⟨by omega,by have:=hv.lt;omega⟩
 have hdt:decide (0<=(t:Int)/\(t:Int)<(cs.length:Int))=true:=decide_eq_true ⟨by omega,by have:=ht.lt;omega⟩
 obtain⟨g,cap,x,hcv,g1,g2,hx,-,gf,d0,-,-,-,d4,-⟩:=h.at hc
 subst hcv
 obtain⟨-,c1,-,cf⟩:=h.cells
 have H:=ad h
 have HV:=ad hv
 have HT:=ad ht
 have HD:=ad (aD hdv hdt)
 have hv0:(0:Int)<=(v:Int):=by omega
 have hv1:(v:Int)<(cs.length:Int):=by have:=hv.lt;omega
 have hl:=h.lt
 have hvt:((v:Int)==(t:Int))=false:=beq_eq_false_iff_ne.2 (by omega)
 have hput:aL sb room (u.setCell (ak g (v*6+4)) (ae (t:Nat))) _ bv _ (cP cs v c (some t)) ys:=h.put hx hc (some t) (h.flw.bind hc hc0 ht hne)
 have HF:=ad (((TF.refl lr u).set (p:=(ak g (v*6+4))) (t:=378) (h.row.ty rfl) (by decide) (h.rowge rfl) (ae (t:Nat))))
 have HP:=ad hput
 have hfew:=h.few'
 have HLV:=ad (aD hv.lt ht.lt)
 rw[hk]at d0
 rw[hc0]at d4
 have d4':u.cell? (ak g (v*6+4))=some (ae (-1)):=d4
 clear d4
 clear h hv ht hdv hdt hx hc0 hput
 have HC:=ad (aD hc hk)
 clear hc hk
 obtain⟨PP,hPP⟩:∃P:Ending->World->Prop,P=fun e u'=>e=.returned (ae 0)/\(∃bv' xs' tp,aL sb room u' (al g cs.length cap) bv' xs' (cP cs v c (some t)) (ys++[(v,tp)]))/\TF lr u u':=⟨_,rfl⟩
 rw[<-hPP]
 have HPP:=ad hPP
 clear hPP
 go_enter func417,ntmps417
 go_wp2_with fail
 refine(gL H.out _).mono ?_
 rintro e w1 ⟨rfl,rfl⟩
 rw[HD.1]
 go_wp2_with fail
 refine(gL H.out _).mono ?_
 rintro e w1 ⟨rfl,rfl⟩
 rw[HD.2]
 go_wp2_with fail
 refine(fD H.out HV.out).mono ?_
 rintro e w1 ⟨rfl,rfl⟩
 go_wp2_with fail
 refine(fD H.out HT.out).mono ?_
 rintro e w1 ⟨rfl,rfl⟩
 go_upto_region 11 with fail
 obtain⟨V,hV⟩:∃V,V=u.setCell (ak g (v*6+4)) (ae (t:Nat)):=⟨_,rfl⟩
 rw[<-hV]at HP HF⊢
 clear hV c1 cf gf d0 d4'
 obtain⟨-,c1,c2,cf⟩:=HP.cells
 have hlV:=HP.lt
 obtain⟨T1,hT1⟩:∃z:Int,max (v:Int) (t:Int)=z:=⟨_,rfl⟩
 have HT1:Hid (0<=T1/\T1<=16777216):=ad (by have:=HLV.out;omega)
 by_cases hys:ys=[]
 ·subst hys
  obtain⟨A2,cap2,rfl⟩:=HP.bonds.shape
  go_wp2_with (at_builtin;refine cK rfl _ _ 187 rfl _ (sb+1) 473 i0 z0 2 16 rt underlying187 hi0 hz0 hz1 hz2 hz3 (by decide) gu sc _ [] (v,T1) rfl (HP.bonds.alloc _) _ 1 rfl (fun j w hw=>by rw[bV _ _ _ j w (by rw[<-Array.getElem?_toList];exact hw)]) (by unfold maxLen;simp) (by simp) (by simp;omega) ?_)
  intro v' w2 hr hg
  obtain⟨A3,c3,rfl⟩:=hr.shape
  have hb2:=HP.grown_blk hg
  have s2:w2.cell? (ak sb 2)=some (.slice A2 0 cap2):=by rw[cell_of_row w2 sb 2 _ _ (0,0) hb2];rfl
  have sf:∀o,w2.frozen? ⟨sb,o,none⟩=false:=fun o=>by simp[World.frozen?,hb2]
  have hls:sb<w2.heap.size:=(ap hb2).1
  have HPU:=ad (HP.push (y:=(v,T1)) hr hg rfl ⟨by rw[dE];exact HLV.1,by have:=HT1.out;simp only;omega,by have:=HT1.out;simp only;omega⟩ (by simp))
  clear hr hg hb2
  go_wp2_with fail
  show PP _ _
  rw[HPP.out]
  exact⟨rfl,⟨_,_,T1,HPU.1⟩,HF.trans HPU.2⟩
 ·obtain⟨ys0,y,rfl⟩:∃ys0 y,ys=ys0++[y]:=⟨_,_,(List.dropLast_concat_getLast hys).symm⟩
  obtain⟨gb,capb,e1,b1,b2,b3,b4⟩:=HP.bonds.cells gu hys
  rw[List.length_append,List.length_singleton]at e1 b3 hm
  subst e1
  have q1:=(b4 ys0.length y (by simp) 1 _ rfl).1
  have hby:=(HP.bnd y (List.mem_append_right _ (List.mem_singleton.2 rfl)))
  have hw:IntKind.i64.wrap (ys0.length:Int)=(ys0.length:Int):=IntWalk.i64_in _ (by omega)
  have hn0:(0:Int)<=(ys0.length:Int):=by omega
  have hn1:(0:Int)<(ys0.length:Int)+1:=by omega
  have hn2:(ys0.length:Int)<(ys0.length:Int)+1:=by omega
  obtain⟨ty,hty⟩:∃z:Int,z=y.2:=⟨_,rfl⟩
  rw[<-hty]at q1 hby
  obtain⟨T2,hT2⟩:∃z:Int,max T1 ty=z:=⟨_,rfl⟩
  have HT2:Hid (-1<=T2/\T2<=100000000):=ad (by have:=HT1.out;omega)
  clear b4 hys hby hty
  go_wp2_with (at_builtin;refine cK rfl _ _ 187 rfl _ (sb+1) 473 i0 z0 2 16 rt underlying187 hi0 hz0 hz1 hz2 hz3 (by decide) gu sc _ (ys0++[y]) (v,T2) rfl (HP.bonds.alloc _) _ 1 rfl (fun j w hw=>by rw[bV _ _ _ j w (by rw[<-Array.getElem?_toList];exact hw)]) (by unfold maxLen;simp;omega) (by simp;omega) (by simp;omega) ?_)
  intro v' w2 hr hg
  obtain⟨A3,c3,rfl⟩:=hr.shape
  have hb2:=HP.grown_blk hg
  have s2:w2.cell? (ak sb 2)=some (al gb (ys0.length+1) capb):=by rw[cell_of_row w2 sb 2 _ _ (0,0) hb2];rfl
  have sf:∀o,w2.frozen? ⟨sb,o,none⟩=false:=fun o=>by simp[World.frozen?,hb2]
  have hls:sb<w2.heap.size:=(ap hb2).1
  have hr2:aS w2 (sb+1) 473 2 rt (.slice A3 (ys0++[y,(v,T2)]).length c3) (ys0++[y]++[(v,T2)]):=by rw[List.append_assoc];exact hr
  have hlen9:(ys0++[y,(v,T2)]).length=ys0.length+2:=by simp
  rw[hlen9]at hr2⊢
  clear hlen9
  have HPU:=ad (HP.push (y:=(v,T2)) hr2 hg rfl ⟨by rw[dE];exact HLV.1,HT2.out⟩ (by simp;omega))
  clear hr hr2 hg hb2
  go_wp2_with fail
  show PP _ _
  rw[HPP.out]
  exact⟨rfl,⟨_,_,T2,HPU.1⟩,HF.trans HPU.2⟩
end
end
end Go.Proofs.YtigeofkllldilaaGreatDoor
