import Derived.Test.YtigeofkllldilaaGreatDoorJM04
set_option maxHeartbeats 32000000
set_option maxRecDepth 100000
set_option linter.unusedSectionVars false
open Go.Proofs.Tryz
namespace Go.Proofs.YtigeofkllldilaaGreatDoor
section
open Go.RowKit Go.Maps
def eV:TV:=⟨0,0,[],none,0,0⟩
theorem kf (n:Nat):((List.replicate n eV).flatMap aJ).length=n*4:=by
 rw[bH bh,List.length_replicate]
theorem sY (z:Value) (hz:z.cells=#[ae 0,ae 0,ai,aj]) (n:Nat):(madeCells z.cells (n*4)).toList=(List.replicate n eV).flatMap aJ:=by
 rw[hz]
 apply List.ext_getElem?
 intro i
 by_cases hi:i<n*4
 ·have h1:i/4<n:=by omega
  have h2:i%4<4:=Nat.mod_lt _ (by omega)
  have h3:i/4*4+i%4=i:=by omega
  have h4:(List.replicate n eV)[i/4]?=some eV:=by rw[List.getElem?_replicate,if_pos h1]
  have e1:(madeCells #[ae 0,ae 0,ai,aj] (n*4)).toList[i]?=(aJ eV)[i%4]?:=by
   rcases(show i%4=0\/i%4=1\/i%4=2\/i%4=3 by omega)with e|e|e|e<;>simp[madeCells,hi,e,aJ,eV]
  have h5:i%4<(aJ eV).length:=by rw[bh];exact h2
  rw[e1,au h5]
  have:=dU bh _ _ _ _ _ h4 (au h5)
  rw[h3]at this
  exact this.symm
 ·rw[List.getElem?_eq_none (by simp[madeCells];omega),List.getElem?_eq_none (by rw[kf];omega)]
theorem ft:∃i z,prog.info? 27=some i/\i.zero=some z/\i.size=4/\i.bytes=56/\z.cells=#[ae 0,ae 0,ai,aj]:=by
 refine⟨_,_,rfl,rfl,?_,?_,?_⟩<;>kernel_rfl
theorem gH (w:World) (n:Nat) (hn:n<=1000000):
 (Instr.makeSlice 25 (ae (n:Int)) (ae (n:Int))).run prog w=.ok (al w.heap.size n n) (w.alloc (.cells ((List.replicate n eV).flatMap aJ).toArray 27)):=by
 obtain⟨i,z,h1,h2,h3,h4,h5⟩:=ft
 have:=run_make (P:=prog) w 25 27 i z underlying25 h1 h2 .i64 .i64 n n (by omega) (by omega) (by rw[h4];omega) (by omega)
 simp only[Int.toNat_natCast,h3]at this
 rw[this]
 congr 3
 rw[<-sY z h5 n]
theorem o9 (w:World) (B n:Nat) (hB:B<=w.heap.size) (hn:n<=1000000):aS (w.alloc (.cells ((List.replicate n eV).flatMap aJ).toArray 27)) B 27 4 aJ (al w.heap.size n n) (List.replicate n eV):=by
 refine⟨?_,?_⟩
 ·rw[kf,List.length_replicate]
 ·rw[List.length_replicate]
  refine .inr ⟨w.heap.size,n,((List.replicate n eV).flatMap aJ).toArray,rfl,hB,heap_alloc_new w _,aC,by unfold maxLen;omega,?_,?_⟩
  ·rw[List.size_toArray,kf]
  ·exact List.take_of_length_le (by rw[kf];exact aC)
theorem xq:∃i z,prog.info? 3=some i/\i.zero=some z/\i.size=1/\i.bytes=8/\z.cells=#[ae 0]:=by
 refine⟨_,_,rfl,rfl,?_,?_,?_⟩<;>kernel_rfl
theorem wA (z:Value) (hz:z.cells=#[ae 0]) (n:Nat):(madeCells z.cells n).toList=(List.replicate n 0).flatMap fq:=by
 rw[hz]
 apply List.ext_getElem?
 intro i
 by_cases hi:i<n
 ·have h4:(List.replicate n 0)[i]?=some 0:=by rw[List.getElem?_replicate,if_pos hi]
  have h5:=dU dw _ i 0 0 (ae ((0:Nat):Int)) h4 rfl
  rw[Nat.mul_one,Nat.add_zero]at h5
  rw[h5]
  simp[madeCells,hi,Nat.mod_one]
 ·rw[List.getElem?_eq_none (by simp[madeCells];omega),List.getElem?_eq_none (by rw[bH dw,List.length_replicate];omega)]
theorem yv (w:World) (n:Nat) (hn:n<=1000000):
 (Instr.makeSlice 178 (ae (n:Int)) (ae (n:Int))).run prog w=.ok (al w.heap.size n n) (w.alloc (.cells ((List.replicate n 0).flatMap fq).toArray 3)):=by
 obtain⟨i,z,h1,h2,h3,h4,h5⟩:=xq
 have:=run_make (P:=prog) w 178 3 i z underlying178 h1 h2 .i64 .i64 n n (by omega) (by omega) (by rw[h4];omega) (by omega)
 simp only[Int.toNat_natCast,h3,Nat.mul_one]at this
 rw[this]
 congr 3
 rw[<-wA z h5 n]
theorem AU (w:World) (B n:Nat) (hB:B<=w.heap.size) (hn:n<=1000000):aS (w.alloc (.cells ((List.replicate n 0).flatMap fq).toArray 3)) B 3 1 fq (al w.heap.size n n) (List.replicate n 0):=by
 have hl:((List.replicate n 0).flatMap fq).length=n:=by rw[bH dw,List.length_replicate,Nat.mul_one]
 refine⟨?_,?_⟩
 ·rw[hl,List.length_replicate,Nat.mul_one]
 ·rw[List.length_replicate]
  refine .inr ⟨w.heap.size,n,((List.replicate n 0).flatMap fq).toArray,rfl,hB,heap_alloc_new w _,aC,by unfold maxLen;omega,?_,?_⟩
  ·rw[List.size_toArray,hl,Nat.mul_one]
  ·exact List.take_of_length_le (by rw[hl,Nat.mul_one];exact aC)
open Go.RowKit
section
variable {P:Program} {α:Type}
theorem fh {ops:Array Oper} {rest:List Oper} {o:Oper} {a:Act} {Q:Exit->Act->World->Prop} (hgd:o.guard=none) (s x:Operand) (t:TypeId)
 (ho:o.op=.call {callee:=.builtin .append,args:=#[s,x],argTypes:=#[t,t]}) (w:World) (B:Nat)
 (e:TypeId) (i:TypeInfo) (z:Value) (sz bytes:Nat) (enc:α->List Value) (ht:P.underlying t=some (.slice e)) (hi:P.info? e=some i) (hz:i.zero=some z)
 (hsize:i.size=sz) (hby:i.bytes=bytes) (hzs:z.cells.size=sz) (hsz:0<sz) (henc:∀x,(enc x).length=sz) (h1:∀x,∀u∈enc x,u.oneCell'=true)
 (v:Value) (l:List α) (y:α) (hs:a.eval s=v) (h:aS w B e sz enc v l)
 (g cap:Nat) (hx:a.eval x=al g 1 cap) (hnews:∀j u,(enc y)[j]?=some u->w.cell? (ak g j)=some u)
 (h63:l.length+1<=maxLen) (hbytes:(l.length+1)*bytes<=140737488355328) (hbase:B<=w.heap.size)
 (hK:∀g' cap' w',aS w' B e sz enc (al g' (l.length+1) cap') (l++[y])->w.grownBy w' v.ownBlock->(v.ownBlock=some g'\/g'=w.heap.size)->wpList P ops Q rest (a.put o.dst (al g' (l.length+1) cap')) w'):wpList P ops Q (o::rest) a w:=by
 refine wpList_append_lies w hgd s x t ho B e i z sz bytes ht hi hz hsize hby hzs hsz v l.length (l.flatMap enc) hs h.own ⟨g,0,none⟩ 1 cap (enc y) hx (by rw[henc,Nat.one_mul]) ?_ (h1 y) (by omega) h63 hbytes hbase w.heap.size rfl ?_
 ·intro j u hu
  have:(⟨g,0,none⟩:Addr).add j=⟨g,j,none⟩:=by unfold Addr.add;split<;>simp_all
  rw[this]
  exact hnews j u hu
 ·intro g' cap' w' h2 h3 h4 _
  refine hK g' cap' w' ⟨?_⟩ h3 h4
  rw[List.flatMap_append,List.length_append]
  simpa using h2
end
end
section
open Go.RowKit Go.Maps
theorem bP.more {cs:List Sc} (d:List Sc) {i j:Nat} (h:bP cs i j):bP (cs++d) i j:=by
 induction h with
 |here h ht=>exact .here (by rw[List.getElem?_append_left (aq h).1];exact h) ht
 |step h ht _ ih=>exact .step (by rw[List.getElem?_append_left (aq h).1];exact h) ht ih
theorem zU.snoc {cs:List Sc} (h:zU cs) {c:Sc} (hc:c.to=none):zU (cs++[c]):=fun i hi=>by
 by_cases hl:i<cs.length
 ·obtain⟨j,hj⟩:=h i hl
  exact⟨j,hj.more _⟩
 ·rw[List.length_append,List.length_singleton]at hi
  have e:i=cs.length:=by omega
  exact⟨i,.here (c:=c) (by rw[e,List.getElem?_append_right aC,Nat.sub_self];rfl) hc⟩
theorem rU {xs:List ec} {b:Nat} {k n t9 tp:Int} {s:List UInt8} {m c:Nat} (h:sJ (xs++[⟨k,n,s,none,m,c,t9,tp⟩]) b):sJ xs b:=by
 obtain⟨x,hx,off,e⟩:=h
 rcases List.mem_append.1 hx with hx|hx
 ·exact⟨x,hx,off,e⟩
 ·rw[List.mem_singleton]at hx
  rw[hx]at e
  cases e
theorem wh:∃i z,prog.info? 378=some i/\i.zero=some z/\i.size=6/\i.bytes=72/\z.cells.size=6:=by
 refine⟨_,_,rfl,rfl,?_,?_,?_⟩<;>kernel_rfl
def iw:List TypeId:=[189,378]
theorem dQ {w E u:World} (h:aE w E) (hb:aE E u):aE w u:=h.trans (hb.mono h.size)
variable[Base]
section
variable {sb room:Nat} {u u':World} {cv bv:Value} {xs:List ec} {cs:List Sc} {ys:List (Nat×Int)}
theorem aL.behind {W' w9:World} (h:aL sb room u cv bv xs cs ys) (hb:aE u W') (hg:W'.grownBy w9 cv.ownBlock):w9.heap[sb]?=some (.cells #[ae (room:Nat),cv,bv] 189 (0,0)):=by
 rw[hg.block sb (Nat.lt_of_lt_of_le h.lt hb.size) fun e=>(show 378≠189 by decide) ((h.row.ty e.symm).same ⟨_,h.blk⟩),hb.block _ h.lt]
 exact h.blk
theorem aL.snoc {W' w9:World} {nv:Value} (h:aL sb room u cv bv xs cs ys) (hb:aE u W') (hg:W'.grownBy w9 cv.ownBlock) (k n:Int) (s:List UInt8) (tp:Int)
 (hown:w9.ownsRow (sb+1) 378 6 nv (xs.length+1) (xs.flatMap iD++iD ⟨k,n,s,none,0,0,-1,tp⟩)) (hroom:cs.length+1<=room) (hs:s.length<=maxLen) (htp:-1<=tp/\tp<=100000000):
 aL sb room (w9.setCell (ak sb 1) nv) nv bv (xs++[⟨k,n,s,none,0,0,-1,tp⟩]) (cs++[⟨k,n,s,[],none⟩]) ys/\TF iw u (w9.setCell (ak sb 1) nv):=by
 have hr:aS w9 (sb+1) 378 6 iD nv (xs++[⟨k,n,s,none,0,0,-1,tp⟩]):=⟨by rw[List.length_append,List.flatMap_append];simpa using hown⟩
 have hb9:=h.behind hb hg
 have hS:aR w9 189 sb:=⟨_,hb9⟩
 have hk:∀ {b t'},aR u t' b->t'≠378->t'≠189->(w9.setCell (ak sb 1) nv).heap[b]?=u.heap[b]?:=fun {b t'} ht hn hn'=>by
  rw[av _ _ _ _ (ht.ne (t':=189) ⟨_,h.blk⟩ hn'),hg.block b (Nat.lt_of_lt_of_le ht.lt hb.size) fun e=>hn (ht.same (h.row.ty e.symm)),hb.block _ ht.lt]
 refine⟨⟨aK hb9 _,hr.keep fun k hk'=>av _ _ _ _ ((hr.ty hk').ne hS (by decide)),h.bonds.keep fun k hk'=>hk (h.bonds.ty hk') (by decide) (by decide),by simp[h.len],fun i x c hx hc=>?_,by simpa using hroom,h.room,h.flw.snoc rfl,fun i c hc a ha=>?_,fun i c hc=>?_,fun y hy=>?_,h.many⟩,?_⟩
 ·by_cases hi:i<cs.length
  ·rw[List.getElem?_append_left (by rw[h.len];exact hi)]at hx
   rw[List.getElem?_append_left hi]at hc
   have ho:=h.ok i x c hx hc
   exact⟨ho.k,ho.n,ho.s,ho.to,ho.m,ho.args.keep fun b hb'=>hk hb' (by decide) (by decide),ho.short,ho.top⟩
  ·have e:i=cs.length:=by have:=(aq hc).1;simp at this;omega
   subst e
   rw[<-h.len,List.getElem?_append_right aC,Nat.sub_self]at hx
   rw[List.getElem?_append_right aC,Nat.sub_self]at hc
   injection hx with hx
   injection hc with hc
   subst hx hc
   exact⟨rfl,rfl,rfl,rfl,rfl,⟨fun _=>rfl,fun i a ha=>by simp at ha⟩,hs,htp⟩
 ·rw[List.length_append,List.length_singleton]
  by_cases hi:i<cs.length
  ·rw[List.getElem?_append_left hi]at hc
   have:=h.args i c hc a ha
   omega
  ·have e:i=cs.length:=by have:=(aq hc).1;simp at this;omega
   subst e
   rw[List.getElem?_append_right aC,Nat.sub_self]at hc
   injection hc with hc
   subst hc
   cases ha
 ·by_cases hi:i<cs.length
  ·rw[List.getElem?_append_left hi]at hc
   exact h.ar i c hc
  ·have e:i=cs.length:=by have:=(aq hc).1;simp at this;omega
   subst e
   rw[List.getElem?_append_right aC,Nat.sub_self]at hc
   injection hc with hc
   subst hc
   simp
 ·rw[List.length_append]
  have:=h.bnd y hy
  omega
 ·refine eL.set (t:=189) ?_ (p:=(ak sb 1)) hS (by decide) h.ge _
  exact((TF.refl iw u).later hb).grown hg fun g e=>.inl ⟨h.rowge e,378,by decide,(h.row.ty e).keep (hb.block _ (h.row.ty e).lt)⟩
theorem sU (h:aL sb room u cv bv xs cs ys) (k n:Int) (s:List UInt8) (hroom:cs.length+1<=room) (hs:s.length<=maxLen):
 Calls prog 352 #[ah sb,.agg #[ae k,ae n,af s,aj,ae 0,ae 0]] u fun e u'=>e=.returned (ae (cs.length:Nat))/\(∃cv' xs',aL sb room u' cv' bv xs' (cs++[⟨k,n,s,[],none⟩]) ys/\∀b,sJ xs' b->sJ xs b)/\TF iw u u':=by
 refine aa fun P hP=>?_
 have HP:=ad hP
 obtain⟨i0,z0,hi0,hz0,hz1,hz2,hz3⟩:=wh
 have hfew:=h.few'
 have hxl:=h.len
 obtain⟨A,cap,hcv⟩:=h.slice
 subst hcv
 have hl:=h.lt
 obtain⟨-,c1,-,cf⟩:=h.cells
 by_cases hnil:cs=[]
 case' pos=>
  subst hnil
  obtain⟨W1,hW1⟩:∃W1,W1=u.alloc (.cells #[ae k,ae n,af s,aj,ae (-1),ae (-1)] 378):=⟨_,rfl⟩
  have hnew:=hW1
  have HR:Hid (∀v,aE u v->v.ownsRow (sb+1) 378 6 (.slice A 0 cap) 0 (xs.flatMap iD)):=ad fun v hb=>by
   have:=(h.later hb).row.own
   rw[hxl]at this
   exact this
  have HC:Hid (∀v,aE u v->v.cell? (ak sb 1)=some (.slice A 0 cap)):=ad fun v hb=>(h.later hb).cells.2.1
  have HB:Hid (∀v v9,aE u v->v.grownBy v9 (Value.slice A 0 cap).ownBlock->v9.cell? (ak sb 1)=some (.slice A 0 cap)/\v9.frozen? ⟨sb,1,none⟩=false):=ad fun v v9 hb hg=>⟨by rw[cell_of_row v9 sb 1 _ _ (0,0) (h.behind hb hg)];rfl,by simp[World.frozen?,h.behind hb hg]⟩
  have HF:Hid (∀v v9 nv,aE u v->v.grownBy v9 (Value.slice A 0 cap).ownBlock->v9.ownsRow (sb+1) 378 6 nv (0+1) (xs.flatMap iD++iD ⟨k,n,s,none,0,0,-1,-1⟩)->P (.returned (ae 0)) (v9.setCell (ak sb 1) nv)):=ad fun v v9 nv hb hg ho=>by
   rw[HP.out]
   obtain⟨q1,q2⟩:=h.snoc hb hg k n s (-1) (by rw[hxl];exact ho) hroom hs ⟨by omega,by omega⟩
   exact⟨rfl,⟨_,_,q1,fun b hb=>rU hb⟩,q2⟩
  have hbx:W1.heap[u.heap.size]?=some (.cells #[ae k,ae n,af s,aj,ae (-1),ae (-1)] 378 (0,0)):=by rw[hnew];exact az
 case' neg=>
  obtain⟨iy,c0,rfl⟩:∃l0 p,cs=l0++[p]:=⟨_,_,(List.dropLast_concat_getLast hnil).symm⟩
  obtain⟨g,cap',x0,hcv,g1,g2,hx,ho,-,-,-,-,-,-,d5⟩:=h.at (i:=iy.length) (c:=c0) (by simp)
  injection hcv with hA hn hc
  subst hA hc
  clear hn
  obtain⟨tp,htp⟩:∃z,z=x0.top:=⟨_,rfl⟩
  have htb:=ho.top
  rw[<-htp]at d5 htb
  rw[List.length_append,List.length_singleton]at hfew hroom hxl c1
  have hw1:IntKind.i64.wrap (((iy.length+1:Nat):Int)-1)=(iy.length:Int):=by rw[IntWalk.i64_in _ (by omega)];omega
  have hw2:IntKind.i64.wrap (iy.length:Int)=(iy.length:Int):=IntWalk.i64_in _ (by omega)
  have hn0:(0:Int)<=(iy.length:Int):=by omega
  have hn1:(0:Int)<(iy.length:Int)+1:=by omega
  have hn2:(iy.length:Int)<(iy.length:Int)+1:=by omega
  obtain⟨W1,hW1⟩:∃W1,W1=u.alloc (.cells #[ae k,ae n,af s,aj,ae (-1),ae tp] 378):=⟨_,rfl⟩
  have hnew:=hW1
  have hll:(iy++[c0]).length=iy.length+1:=by simp
  rw[hll]at h
  have HR:Hid (∀v,aE u v->v.ownsRow (sb+1) 378 6 (al g (iy.length+1) cap) (iy.length+1) (xs.flatMap iD)):=ad fun v hb=>by
   have:=(h.later hb).row.own
   rw[hxl]at this
   exact this
  have HC:Hid (∀v,aE u v->v.cell? (ak sb 1)=some (al g (iy.length+1) cap)):=ad fun v hb=>(h.later hb).cells.2.1
  have HB:Hid (∀v v9,aE u v->v.grownBy v9 (al g (iy.length+1) cap).ownBlock->v9.cell? (ak sb 1)=some (al g (iy.length+1) cap)/\v9.frozen? ⟨sb,1,none⟩=false):=ad fun v v9 hb hg=>⟨by rw[cell_of_row v9 sb 1 _ _ (0,0) (h.behind hb hg)];rfl,by simp[World.frozen?,h.behind hb hg]⟩
  have HF:Hid (∀v v9 nv,aE u v->v.grownBy v9 (al g (iy.length+1) cap).ownBlock->v9.ownsRow (sb+1) 378 6 nv (iy.length+1+1) (xs.flatMap iD++iD ⟨k,n,s,none,0,0,-1,tp⟩)->P (.returned (ae ((iy.length:Int)+1))) (v9.setCell (ak sb 1) nv)):=ad fun v v9 nv hb hg ho=>by
   rw[HP.out]
   obtain⟨q1,q2⟩:=h.snoc hb hg k n s tp (by rw[hxl];exact ho) (by rw[hll];exact hroom) hs htb
   exact⟨by rw[hll];rfl,⟨_,_,q1,fun b hb=>rU hb⟩,q2⟩
  clear hx ho hnil htp htb
  have hbx:W1.heap[u.heap.size]?=some (.cells #[ae k,ae n,af s,aj,ae (-1),ae tp] 378 (0,0)):=by rw[hnew];exact az
 all_goals
  have hb1:aE u W1:=by rw[hnew];exact aB
  have hsz:W1.heap.size=u.heap.size+1:=by rw[hnew];simp
  obtain⟨x0,x1,x2,x3,x4,x5,-⟩:=iT hbx
  have HB1:=ad hb1
  have hlW:sb<W1.heap.size:=by omega
  have hlB:u.heap.size<W1.heap.size:=by omega
  have cW:=HC.out _ hb1
  have cfW:∀o,W1.frozen? ⟨sb,o,none⟩=false:=fun o=>(World.frozen?_of_block (w:=u) (a:=⟨sb,o,none⟩) (hb1.block _ hl)).trans (cf o)
  clear h hP hnew hbx hb1
  go_enter func352,ntmps352
  go_upto_region 5 with fail
  rw[<-hW1]
  clear hW1 c1 cf
  go_region_law
   ((refine step_append_lies _ (by rfl) _ _ _ (by rfl) (sb+1) 378 i0 _ 6 72 underlying186 hi0 hz0 hz1 hz2 hz3 (by omega) _ _ (xs.flatMap iD) (by rfl) (HR.out _ (dQ HB1.out (by(repeat (first|exact aA|refine Below.drew ?_|refine Below.alloc ?_ aC _)))))
      ⟨u.heap.size+1,0,none⟩ 1 1 (iD ⟨k,n,s,none,0,0,-1,_⟩) (by rfl) (by rfl) (World.news_of_block (cs:=(iD ⟨k,n,s,none,0,0,-1,_⟩).toArray) (t:=378) (fr:=(0,0)) (by rw[<-hsz];exact heap_alloc_new W1 _)) (AZ _)
      (by omega) (by unfold maxLen;omega) (by omega) (by simp;omega) (u.heap.size+2) (by simp[hsz]) ?_;intro gg cap2 w9 hown9 hgrow hat9 hlt9;obtain⟨hc9,hf9⟩:w9.cell? (ak sb 1)=_/\w9.frozen? ⟨sb,1,none⟩=false:=HB.out _ _ (dQ HB1.out (by(repeat (first|exact aA|refine Below.drew ?_|refine Below.alloc ?_ aC _)))) hgrow))
 all_goals
  have HQ:=ad (HF.out _ _ _ (dQ HB1.out (by(repeat (first|exact aA|refine Below.drew ?_|refine Below.alloc ?_ aC _)))) hgrow hown9)
  clear hgrow hown9
  go_wp2_with fail
  exact HQ.out
end
end
section
open Go.Maps
mutual
def dP:Tm->List Int
 | .mk k n _ l=>(if k=1 then[n]else[])++gm l
def gm:List Tm->List Int
 |[]=>[]
 |t::r=>dP t++gm r
end
mutual
def fd (f:Int->Int):Tm->Tm
 | .mk k n s l=>.mk k (if k=1 then f n else n) s (oM f l)
def oM (f:Int->Int):List Tm->List Tm
 |[]=>[]
 |t::r=>fd f t::oM f r
end
theorem gR (f:Int->Int):∀l:List Tm,oM f l=l.map (fd f)
 |[]=>rfl
 |t::r=>by rw[oM,gR f r];rfl
inductive ic (cs:List Sc):Nat->Tm->Prop
 |var {i j:Nat} {c:Sc} (hr:bP cs i j) (hc:cs[j]?=some c) (hk:c.k=1):ic cs i (.mk 1 j [] [])
 |part {i j:Nat} {c:Sc} {l:List Tm} (hr:bP cs i j) (hc:cs[j]?=some c) (hk:c.k≠1) (hl:l.length=c.args.length) (ha:∀(q:Nat) a t,c.args[q]?=some a->l[q]?=some t->ic cs a t):ic cs i (.mk c.k c.n c.s l)
def gD (fr:List (Int×Nat)) (n:Int):Int:=((aP fr n).getD 0:Nat)
mutual
theorem nO {cs:List Sc} {T:Nat->Tm} {fr:List (Int×Nat)} (hT:∀(i:Nat) c,cs[i]?=some c->c.k≠1->T i=.mk c.k c.n c.s (c.args.map T)) (hv:∀(i:Nat) c,cs[i]?=some c->c.k=1->∃n,T i=.mk 1 n [] []/\gD fr n=i)
 (h0:∀(i:Nat) c,cs[i]?=some c->c.to=none/\∀a∈c.args,a<cs.length):∀(t:Tm) (i:Nat),i<cs.length->T i=t->ic cs i (fd (gD fr) t)
 | .mk k n s l,i,hi,he=>by
  have hc:=au hi
  generalize cs[i]=c at hc
  obtain⟨h1,h2⟩:=h0 i c hc
  by_cases hk:c.k=1
  ·obtain⟨m,e1,e2⟩:=hv i c hc hk
   rw[he]at e1
   injection e1 with q1 q2 q3 q4
   subst q1 q2 q3 q4
   rw[fd,if_pos rfl,e2]
   exact .var (.here hc h1) hc hk
  ·have e1:=hT i c hc hk
   rw[he]at e1
   injection e1 with q1 q2 q3 q4
   subst q1 q2 q3
   rw[fd,if_neg hk]
   refine .part (.here hc h1) hc hk (by rw[gR,List.length_map,q4,List.length_map]) fun q a t ha ht=>?_
   have hm:=List.mem_of_getElem? ha
   have hlq:l[q]?=some (T a):=by rw[q4,List.getElem?_map,ha];rfl
   rw[gR,List.getElem?_map,hlq]at ht
   injection ht with ht
   rw[<-ht]
   exact oq hT hv h0 l (T a) (List.mem_of_getElem? hlq) a (h2 a hm) rfl
theorem oq {cs:List Sc} {T:Nat->Tm} {fr:List (Int×Nat)} (hT:∀(i:Nat) c,cs[i]?=some c->c.k≠1->T i=.mk c.k c.n c.s (c.args.map T)) (hv:∀(i:Nat) c,cs[i]?=some c->c.k=1->∃n,T i=.mk 1 n [] []/\gD fr n=i)
 (h0:∀(i:Nat) c,cs[i]?=some c->c.to=none/\∀a∈c.args,a<cs.length):∀(l:List Tm) (t:Tm),t∈l->∀(i:Nat),i<cs.length->T i=t->ic cs i (fd (gD fr) t)
 |[],t,ht=>by cases ht
 |x::r,t,ht=>fun i hi he=>by
  have hx:=nO hT hv h0 x
  have hr:=oq hT hv h0 r
  rcases List.mem_cons.1 ht with e|ht
  ·subst e
   exact hx i hi he
  ·exact hr t ht i hi he
end
mutual
def cE:Tm->List (Int×Int)->Tm×List (Int×Int)
 | .mk k n s l,m=>
  if k=1 then
   match aP m n with
   |some a=>(.mk 1 a s l,m)
   |none=>(.mk 1 m.length s l,m++[(n,(m.length:Int))])
  else(.mk k n s (cA l m).1,(cA l m).2)
def cA:List Tm->List (Int×Int)->List Tm×List (Int×Int)
 |[],m=>([],m)
 |t::r,m=>((cE t m).1::(cA r (cE t m).2).1,(cA r (cE t m).2).2)
end
structure iC (m:List (Int×Int)):Prop where
 at':∀(i:Nat) x,m[i]?=some x->x.2=(i:Int)
 one:∀x∈m,∀y∈m,x.1=y.1->x.2=y.2
theorem iC.inj {m:List (Int×Int)} (h:iC m) {x y:Int×Int} (hx:x∈m) (hy:y∈m) (he:x.2=y.2):x=y:=by
 obtain⟨i,hi⟩:=List.mem_iff_getElem?.1 hx
 obtain⟨j,hj⟩:=List.mem_iff_getElem?.1 hy
 have h1:=h.at' i x hi
 have h2:=h.at' j y hj
 have:i=j:=by omega
 subst this
 rw[hi]at hj
 injection hj
def oP (m:List (Int×Int)) (n:Int):Int:=(aP m n).getD 0
theorem gx {m:List (Int×Int)} (h:iC m) {n a:Int} (hm:(n,a)∈m):oP m n=a:=by
 unfold oP
 cases hg:aP m n with
 |none=>exact absurd rfl (dr hg _ hm)
 |some b=>exact h.one _ (dA hg) _ hm rfl
def Ds (m:List (Int×Int)) (n:Int):Prop:=∃a,(n,a)∈m
mutual
theorem uQ:∀(t:Tm) (m:List (Int×Int)),t.may=true->iC m->iC (cE t m).2/\(∃e,(cE t m).2=m++e)/\(∀m',iC m'->(∃e,m'=(cE t m).2++e)->(cE t m).1=fd (oP m') t/\∀n∈dP t,Ds m' n)
 | .mk k n s l,m,hm,hN=>by
  obtain⟨m1,-,-⟩:=eX hm
  by_cases h1:k=1
  ·subst h1
   obtain⟨rfl,rfl⟩:=m1 rfl
   cases hg:aP m n with
   |some a=>
    have e:cE (.mk 1 n [] []) m=(.mk 1 a [] [],m):=by rw[cE,if_pos rfl,hg]
    rw[e]
    refine⟨hN,⟨[],by simp⟩,fun m' hN' hp=>?_⟩
    obtain⟨e',rfl⟩:=hp
    have hmem:=List.mem_append_left e' (dA hg)
    refine⟨?_,fun n' hn'=>?_⟩
    ·rw[fd,if_pos rfl,gx hN' hmem]
     rfl
    ·have:n'=n:=by simpa[dP,gm]using hn'
     subst this
     exact⟨a,hmem⟩
   |none=>
    have e:cE (.mk 1 n [] []) m=(.mk 1 m.length [] [],m++[(n,(m.length:Int))]):=by rw[cE,if_pos rfl,hg]
    rw[e]
    have hno:=dr hg
    have hN2:iC (m++[(n,(m.length:Int))]):=⟨fun i x hx=>by
     by_cases hi:i<m.length
     ·rw[List.getElem?_append_left hi]at hx
      exact hN.at' i x hx
     ·rw[List.getElem?_append_right (by omega)]at hx
      have hz:i-m.length=0:=by have:=(aq hx).1;simpa using this
      rw[hz]at hx
      injection hx with hx
      subst hx
      simp only
      omega,fun x hx y hy exy=>by
     rcases List.mem_append.1 hx with hx|hx
     ·rcases List.mem_append.1 hy with hy|hy
      ·exact hN.one x hx y hy exy
      ·rw[List.mem_singleton]at hy
       subst hy
       exact absurd exy (hno x hx)
     ·rw[List.mem_singleton]at hx
      subst hx
      rcases List.mem_append.1 hy with hy|hy
      ·exact absurd exy.symm (hno y hy)
      ·rw[List.mem_singleton]at hy
       subst hy
       rfl⟩
    refine⟨hN2,⟨_,rfl⟩,fun m' hN' hp=>?_⟩
    obtain⟨e',rfl⟩:=hp
    have hmem:(n,(m.length:Int))∈m++[(n,(m.length:Int))]++e':=List.mem_append_left _ (List.mem_append_right _ (List.mem_singleton.2 rfl))
    refine⟨?_,fun n' hn'=>?_⟩
    ·rw[fd,if_pos rfl,gx hN' hmem]
     rfl
    ·have:n'=n:=by simpa[dP,gm]using hn'
     subst this
     exact⟨_,hmem⟩
  ·have e:cE (.mk k n s l) m=(.mk k n s (cA l m).1,(cA l m).2):=by rw[cE,if_neg h1]
   rw[e]
   obtain⟨h2,h3,h4⟩:=uF l m (eY hm) hN
   refine⟨h2,h3,fun m' hN' hp=>?_⟩
   obtain⟨g1,g2⟩:=h4 m' hN' hp
   refine⟨by simp only;rw[fd,if_neg h1,g1],fun n' hn'=>?_⟩
   refine g2 n' ?_
   simpa[dP,h1]using hn'
theorem uF:∀(l:List Tm) (m:List (Int×Int)),(∀t∈l,t.may=true)->iC m->iC (cA l m).2/\(∃e,(cA l m).2=m++e)/\(∀m',iC m'->(∃e,m'=(cA l m).2++e)->(cA l m).1=oM (oP m') l/\∀n∈gm l,Ds m' n)
 |[],m,_,hN=>by
  rw[cA]
  exact⟨hN,⟨[],by simp⟩,fun m' _ _=>⟨rfl,fun n hn=>by simp[gm]at hn⟩⟩
 |t::r,m,hm,hN=>by
  obtain⟨h1,⟨e1,h2⟩,h3⟩:=uQ t m (hm t (List.mem_cons_self ..)) hN
  obtain⟨g1,⟨e2,g2⟩,g3⟩:=uF r (cE t m).2 (fun x hx=>hm x (List.mem_cons_of_mem _ hx)) h1
  rw[cA]
  refine⟨g1,⟨e1++e2,by simp only;rw[g2,h2,List.append_assoc]⟩,fun m' hN' hp=>?_⟩
  obtain⟨e',hp⟩:=hp
  obtain⟨q1,q2⟩:=h3 m' hN' ⟨e2++e',by rw[hp,g2,List.append_assoc]⟩
  obtain⟨r1,r2⟩:=g3 m' hN' ⟨e',hp⟩
  refine⟨by simp only;rw[oM,q1,r1],fun n hn=>?_⟩
  simp only[gm,List.mem_append]at hn
  exact hn.elim (q2 n) (r2 n)
end
mutual
theorem me (f:Int->Int) (hf:∀n,0<=f n):∀t:Tm,t.may=true->(fd f t).may=true
 | .mk k n s l,h=>by
  rw[Tm.may,Bool.and_eq_true]at h
  rw[fd,Tm.may,Bool.and_eq_true]
  refine⟨?_,sv f hf l h.2⟩
  rw[gR,List.length_map]
  by_cases hk:k=1
  ·subst hk
   have h1:=h.1
   unfold eR at h1⊢
   rw[if_pos rfl]at h1⊢
   have:=of_decide_eq_true h1
   rw[if_pos rfl]
   exact decide_eq_true ⟨hf n,this.2⟩
  ·rw[if_neg hk]
   exact h.1
theorem sv (f:Int->Int) (hf:∀n,0<=f n):∀l:List Tm,Tm.mays l=true->Tm.mays (oM f l)=true
 |[],_=>rfl
 |t::r,h=>by
  rw[Tm.mays,Bool.and_eq_true]at h
  rw[oM,Tm.mays,Bool.and_eq_true]
  exact⟨me f hf t h.1,sv f hf r h.2⟩
end
open Go.RowKit Go.Maps
structure kR (u:World) (vb:Option Nat):Prop where
 at':∀b,vb=some b->M6 u b []
section
variable {u u':World} {vb:Option Nat}
theorem kR.keep (h:kR u vb) (hb:∀b,vb=some b->b<u.heap.size->u'.heap[b]?=u.heap[b]?):kR u' vb:=⟨fun b e=>(h.at' b e).keep (hb b e (h.at' b e).lt)⟩
theorem kR.later (h:kR u vb) (hb:aE u u'):kR u' vb:=h.keep fun b _ hl=>hb.block b hl
theorem kR.ne (h:kR u vb) {t:TypeId} {k:Nat} (hk:aR u t k):vb≠some k:=fun e=>(h.at' k e).map.ne hk rfl
theorem kR.miss (h:kR u vb) (k:Int) (hk:fP k):(Instr.lookup 116 (.map vb) (ae k) true).run prog u=.ok (.tuple #[ae 0,.bool false]) u:=by
 cases vb with
 |none=>kernel_rfl
 |some b=>exact(h.at' b rfl).miss k hk
end
structure eC (pb sb:Nat) (vb:Option Nat) (fb:Nat) (u:World) (need:Nat) (l:List (Int×Int)):Prop where
 blk:u.heap[pb]?=some (.cells #[ah sb,.map vb,.map (some fb),ae (need:Nat)] 395 (0,0))
 vars:kR u vb
 fresh:M6 u fb l
 ne:vb≠some fb
section
variable {pb sb fb:Nat} {vb:Option Nat} {u u':World} {need:Nat} {l:List (Int×Int)}
theorem eC.lt (h:eC pb sb vb fb u need l):pb<u.heap.size:=(ap h.blk).1
theorem eC.later (h:eC pb sb vb fb u need l) (hb:aE u u'):eC pb sb vb fb u' need l:=⟨(hb.block _ h.lt).trans h.blk,h.vars.later hb,h.fresh.later hb,h.ne⟩
theorem eC.apart (h:eC pb sb vb fb u need l):vb≠some pb/\pb≠fb:=by
 refine⟨fun e=>?_,fun e=>?_⟩
 ·exact h.vars.ne (t:=395) ⟨_,h.blk⟩ e
 ·obtain⟨es,clock,h1,-⟩:=h.fresh.map.blk
  rw[<-e,h.blk]at h1
  cases h1
def sV (pb sb:Nat) (vb:Option Nat) (fb:Nat) (u:World) (m:Nat) (need:Nat) (e:Ending) (u':World):Prop:=
 e=.returned (.bool true)/\(∃need' l',eC pb sb vb fb u' need' l'/\need'<=need+m)/\Fr (fun k=>k=pb\/k=fb) u u'
def EA (pb sb:Nat) (vb:Option Nat) (fb:Nat) (n:Nat):Prop:=∀(t:Tm) (u:World) (x:TV) (need:Nat) (l:List (Int×Int)),t.size<=n->aI u (aR u 27) x t->eC pb sb vb fb u need l->t.may=true->(∀n∈dP t,fP n)->need+t.size<=10000000→
 Calls prog 280 #[ah pb,aU x] u (sV pb sb vb fb u t.size need)
end
theorem ma:∀ {l:List Tm} {a:Tm} {n:Int},a∈l->n∈dP a->n∈gm l
 |x::r,a,n,ha,hn=>by
  rw[gm]
  rcases List.mem_cons.1 ha with rfl|ha
  ·exact List.mem_append_left _ hn
  ·exact List.mem_append_right _ (ma ha hn)
theorem qg {k n:Int} {s:List UInt8} {l:List Tm} (h:(Tm.mk k n s l).may=true):l.length<=255:=by
 rw[Tm.may,Bool.and_eq_true]at h
 have h1:=h.1
 unfold eR at h1
 repeat' split at h1
 all_goals first|(have:=of_decide_eq_true h1;omega)|cases h1
theorem Cb {n:Int} {s:List UInt8} {l:List Tm} (h:(Tm.mk 4 n s l).may=true):0<l.length:=by
 rw[Tm.may,Bool.and_eq_true]at h
 have h1:=h.1
 unfold eR at h1
 rw[if_neg (by decide),if_neg (by decide),if_neg (by decide),if_pos rfl]at h1
 have:=of_decide_eq_true h1
 omega
theorem lI:∀(a:Nat) (l:List Tm),Tm.sizes (l.drop a)<=Tm.sizes l
 |0,l=>by simp
 |a+1,[]=>by simp
 |a+1,t::r=>by
  have:=lI a r
  simp only[List.drop_succ_cons,Tm.sizes]
  omega
section
variable {pb sb fb:Nat} {vb:Option Nat} {u u':World} {need:Nat} {l:List (Int×Int)}
theorem xe (u:World) (x:TV) (hk:x.k=1) (hl0:x.len=0) (hn:fP x.n) (hs:eC pb sb vb fb u need l) (hnd:need+1<=10000000):
 Calls prog 280 #[ah pb,aU x] u (sV pb sb vb fb u 1 need):=by
 refine aa fun P hP=>?_
 have HP:=ad hP
 obtain⟨k,n,s,A,len,c⟩:=x
 simp only at hk hl0 hn
 subst hk hl0
 obtain⟨U,hU⟩:∃U,U=u.alloc (.cells #[ae 1,ae n,af s,.slice A 0 c] 27):=⟨_,rfl⟩
 have hbU:aE u U:=by rw[hU];exact aB
 have hz:U.heap[u.heap.size]?=some (.cells #[ae 1,ae n,af s,.slice A 0 c] 27 (0,0)):=by rw[hU];exact az
 obtain⟨z0,z1,z2,z3,-⟩:=aH hz
 obtain⟨p0,p1,p2,p3,pf⟩:=aH (hs.later hbU).blk
 have hlU:=(hs.later hbU).lt
 have hlz:u.heap.size<U.heap.size:=(ap hz).1
 have hpu:pb<u.heap.size:=hs.lt
 have k1:=((hs.later hbU).vars.later aA.drew).miss n hn
 have H:=ad (hs.later hbU)
 have HB:=ad hbU
 have HZ:=ad hz
 clear hP hs hbU hz
 unfold aU
 go_enter func280,ntmps280
 go_upto_region 1 with fail
 rw[<-hU]
 clear hU
 go_upto_region 2 with fail
 go_region
 obtain⟨V,hV⟩:∃V,V=U.drew:=⟨_,rfl⟩
 have hbV:aE U V:=by rw[hV];exact aA.drew
 rw[<-hV]
 clear k1 p0 p1 p2 p3 pf z0 z1 z2 z3 hlU
 have HV:=ad (H.later hbV)
 have hz:V.heap[u.heap.size]?=some (.cells #[ae 1,ae n,af s,.slice A 0 c] 27 (0,0)):=(hbV.block _ hlz).trans HZ.out
 obtain⟨z0,z1,z2,z3,-⟩:=aH hz
 obtain⟨p0,p1,p2,p3,pf⟩:=aH HV.blk
 have hlV:=HV.lt
 have HBV:=ad (dQ HB.out hbV)
 have hlz2:u.heap.size<V.heap.size:=(ap hz).1
 have HZV:=ad hz
 clear hV hbV H HB hz hlz
 by_cases hg:∃a,aP l n=some a
 ·obtain⟨a,hg⟩:=hg
  have k2:=(HV.fresh.later aA.drew).hit n hn hg
  have HQ:Hid (P (.returned (.bool true)) V.drew):=ad (by
   rw[HP.out]
   exact⟨rfl,⟨need,l,HV.later aA.drew,by omega⟩,Fr.of_below _ HBV.drew⟩)
  clear hg
  go_upto_region 5 with fail
  go_region
  go_wp2_with fail
  exact HQ.out
 ·have hg:aP l n=none:=by
   cases h:aP l n with
   |none=>rfl
   |some a=>exact absurd ⟨a,h⟩ hg
  have k2:=(HV.fresh.later aA.drew).lack n hn hg
  go_upto_region 5 with fail
  go_region
  obtain⟨V2,hV2⟩:∃V2,V2=V.drew:=⟨_,rfl⟩
  have hbV:aE V V2:=by rw[hV2];exact aA.drew
  obtain⟨w',k3,k4,k5,k6⟩:=((HV.later hbV).fresh.later aA.drew).put n hn (-1)
  have HV2:=ad (HV.later hbV)
  have hz2:V2.heap[u.heap.size]?=some (.cells #[ae 1,ae n,af s,.slice A 0 c] 27 (0,0)):=(hbV.block _ hlz2).trans HZV.out
  rw[<-hV2]
  clear hV2 k2 z0 z1 z2 z3 p0 p1 p2 p3 pf hlV
  obtain⟨z0,z1,z2,z3,-⟩:=aH hz2
  obtain⟨p0,p1,p2,p3,pf⟩:=aH HV2.blk
  have hlV:=HV2.lt
  have hbw:w'.heap[pb]?=V2.heap[pb]?:=k5.block pb hlV (fun e=>HV2.apart.2 (Option.some.inj e))
  have hzf:u.heap.size≠fb:=fun e=>by
   obtain⟨es,clock,h1,-⟩:=HV2.fresh.map.blk
   rw[<-e,hz2]at h1
   cases h1
  have hzw:w'.heap[u.heap.size]?=V2.heap[u.heap.size]?:=k5.block _ (ap hz2).1 (fun e=>hzf (Option.some.inj e))
  have hbw2:=hbw.trans HV2.blk
  obtain⟨a0,a1,a2,a3,-⟩:=aH (hzw.trans hz2)
  obtain⟨b0,b1,b2,b3,bf⟩:=aH hbw2
  have hvw:kR w' vb:=HV2.vars.keep fun b e hl=>k5.block _ hl (fun e'=>HV2.ne (e.trans e'))
  have hlw:pb<w'.heap.size:=(ap hbw2).1
  have hlz3:u.heap.size<w'.heap.size:=(ap (hzw.trans hz2)).1
  have hadd:IntKind.i64.wrap ((need:Int)+1)=(need:Int)+1:=IntWalk.i64_in _ (by omega)
  have HQ:Hid (P (.returned (.bool true)) (w'.setCell (ak pb 3) (ae ((need:Int)+1)))):=ad (by
   rw[HP.out]
   have hap:=HV2.apart
   refine⟨rfl,⟨need+1,cL l n (-1),⟨aK hbw2 _,hvw.keep fun b e _=>av _ _ _ _ (fun e'=>hap.1 (e.trans (congrArg some e'))),k4.keep (av _ _ _ _ (Ne.symm hap.2)),HV2.ne⟩,aC⟩,?_⟩
   exact((Fr.of_below _ (dQ HBV.out hbV).drew).grown k5 fun g e=>.inl (.inr (Option.some.inj e).symm)).setCell (p:=(ak pb 3)) (.inl (.inl rfl)) _)
  clear k4 k5 k6 hbw hzf hzw hbw2 hvw hz2 hbV hg
  have hne1:u.heap.size≠pb:=by omega
  have hne2:pb≠u.heap.size:=by omega
  go_upto_region 8 with fail
  go_region
  go_wp2_with fail
  obtain⟨W9,hW9⟩:∃W,W=w'.setCell (ak pb 3) (ae ((need:Int)+1)):=⟨_,rfl⟩
  rw[<-hW9]at HQ⊢
  clear hW9
  go_loopg [58] 0 (fun _ v wr=>v=ae 0/\W9=wr)
  case atStart=>exact⟨rfl,rfl⟩
  case round=>
   obtain⟨rfl,rfl⟩:=hrel
   go_wp2_with fail
   exact HQ.out
theorem ug (m:Nat) (hC:EA pb sb vb fb m) (u:World) (x:TV) (t:Tm) (hsz:t.size<=m+1) (hk:x.k≠1) (hx:aI u (aR u 27) x t) (hs:eC pb sb vb fb u need l) (hmay:t.may=true) (hv:∀n∈dP t,fP n) (hnd:need+t.size<=10000000):
 Calls prog 280 #[ah pb,aU x] u (sV pb sb vb fb u t.size need):=by
 refine aa fun P hP=>?_
 have HP:=ad hP
 have HX:=ad hx
 cases hx with
 |mk _ args xs h1 h2 h3 hc ht=>
 obtain⟨k,n,s,A,len,c⟩:=x
 simp only at hk h1 h2 h3 hc ht HP HX hsz hmay hv hnd hP
 have HA:Hid ((∀(i:Nat) a,args[i]?=some a->a.may=true/\(∀n∈dP a,fP n))/\Tm.sizes args<=m/\need+1+Tm.sizes args<=10000000/\args.length=len/\len<=255):=ad (by
  have hsz:1+Tm.sizes args<=m+1:=by simpa only[Tm.size]using hsz
  have hnd:need+(1+Tm.sizes args)<=10000000:=by simpa only[Tm.size]using hnd
  refine⟨fun i a ha=>⟨eY hmay a (List.mem_of_getElem? ha),fun n hn=>hv n ?_⟩,by omega,by omega,h2,?_⟩
  ·rw[dP]
   exact List.mem_append_right _ (ma (List.mem_of_getElem? ha) hn)
  ·rw[<-h2]
   exact qg hmay)
 have HXS:=ad (aD h1 (aD hc ht))
 have HM:=ad hC
 have hpu:pb<u.heap.size:=hs.lt
 have H0:=ad hs
 obtain⟨U,hU⟩:∃U,U=u.alloc (.cells #[ae k,ae n,af s,.slice A len c] 27):=⟨_,rfl⟩
 have hbU:aE u U:=by rw[hU];exact aB
 have hz:U.heap[u.heap.size]?=some (.cells #[ae k,ae n,af s,.slice A len c] 27 (0,0)):=by rw[hU];exact az
 obtain⟨z0,z1,z2,z3,-⟩:=aH hz
 obtain⟨p0,p1,p2,p3,pf⟩:=aH (hs.later hbU).blk
 have hlU:=(hs.later hbU).lt
 have hlz:u.heap.size<U.heap.size:=(ap hz).1
 have b1:(k==1)=false:=beq_eq_false_iff_ne.2 hk
 have hne1:u.heap.size≠pb:=by omega
 have hne2:pb≠u.heap.size:=by omega
 have hadd:IntKind.i64.wrap ((need:Int)+1)=(need:Int)+1:=IntWalk.i64_in _ (by omega)
 have hlen255:=HA.2.2.2.2
 have HI0:Hid (eC pb sb vb fb (U.setCell (ak pb 3) (ae ((need:Int)+1))) (need+1) l/\Fr (fun k=>k=pb\/k=fb) u (U.setCell (ak pb 3) (ae ((need:Int)+1)))):=ad (by
  have h:=hs.later hbU
  have hap:=h.apart
  exact⟨⟨aK h.blk _,h.vars.keep fun b e _=>av _ _ _ _ (fun e'=>hap.1 (e.trans (congrArg some e'))),h.fresh.keep (av _ _ _ _ (Ne.symm hap.2)),h.ne⟩,(Fr.of_below _ hbU).setCell (p:=(ak pb 3)) (.inl (.inl rfl)) _⟩)
 clear hP hk h1 h2 hc ht hs hmay hv hsz hnd hC hbU hz
 unfold aU
 go_enter func280,ntmps280
 go_upto_region 1 with fail
 rw[<-hU]
 clear hU
 go_wp2_with fail
 obtain⟨W9,hW9⟩:∃W,W=U.setCell (ak pb 3) (ae ((need:Int)+1)):=⟨_,rfl⟩
 rw[<-hW9]at HI0⊢
 clear hW9 z0 z1 z2 z3 p0 p1 p2 p3 pf hlU hlz hne1 hne2 b1
 go_loopw [58] (fun i wr=>∃(q need':Nat) (l':List (Int×Int)),i=ae (q:Nat)/\q<=len/\Hid (eC pb sb vb fb wr need' l'/\Fr (fun k=>k=pb\/k=fb) u wr/\need'+Tm.sizes (args.drop q)<=need+1+Tm.sizes args)) (fun i _=>len-(intOf i).toNat)
 case atStart=>exact⟨0,need+1,l,rfl,Nat.zero_le _,ad ⟨HI0.1,HI0.2,by simp⟩⟩
 case round=>
  obtain⟨q,need',l',rfl,hq,HI⟩:=hrel
  clear HI0
  by_cases hlt:q<len
  ·obtain⟨a,ha⟩:∃a,args[q]?=some a:=⟨_,au (by rw[HA.2.2.2.1];exact hlt)⟩
   obtain⟨y,hy⟩:∃y,xs[q]?=some y:=⟨_,au (by rw[HXS.1];exact hlt)⟩
   obtain⟨b,off,rfl,hb,hcc⟩:=HXS.2.1 q y hy
   have hkT:∀b,aR u 27 b->wr.heap[b]?=u.heap[b]?:=fun b hb=>HI.2.1.block b hb.lt (fun e=>by
    rcases e with e|e
    ·exact hb.ne ⟨_,H0.blk⟩ (by decide) e
    ·exact H0.fresh.map.ne hb e.symm)
   have hcell:∀(j:Nat) v,(aJ y)[j]?=some v->wr.cell? (ak b (off+q*4+j))=some v:=fun j v hv=>(World.cell?_of_block (a:=⟨b,off+q*4+j,none⟩) (hkT b hb)).trans (hcc j v hv)
   have y0:=hcell 0 _ rfl
   have y1:=hcell 1 _ rfl
   have y2:=hcell 2 _ rfl
   have y3:=hcell 3 _ rfl
   rw[Nat.add_zero]at y0
   have hbl:b<wr.heap.size:=Nat.lt_of_lt_of_le hb.lt HI.2.1.size
   have HT:=ad ((HXS.2.2 q y a hy ha).keep (w':=wr) (S':=aR wr 27) (fun b hb=>hb.keep (hkT b hb)) hkT)
   obtain⟨V,hV⟩:∃V,V=wr.alloc (.cells #[ae y.k,ae y.n,af y.s,.slice y.A y.len y.cap] 27):=⟨_,rfl⟩
   have hbV:aE wr V:=by rw[hV];exact aB
   have hzV:V.heap[wr.heap.size]?=some (.cells #[ae y.k,ae y.n,af y.s,.slice y.A y.len y.cap] 27 (0,0)):=by rw[hV];exact az
   obtain⟨v0,v1,v2,v3,-⟩:=aH hzV
   have hlt1:(q:Int)<(len:Int):=by omega
   have hge:(0:Int)<=(q:Int):=by omega
   have hwq:IntKind.i64.wrap ((q:Int)+1)=(q:Int)+1:=IntWalk.i64_in _ (by omega)
   have HTV:Hid (aI V (aR V 27) y a):=ad (HT.keep (fun b hb=>hb.keep (hbV.block b hb.lt)) fun b hb=>hbV.block b hb.lt)
   have HBV:=ad hbV
   have HAQ:=ad ha
   have HSZ:Hid (a.size+Tm.sizes (args.drop (q+1))=Tm.sizes (args.drop q)):=ad (by
    obtain⟨hl,he⟩:=aq ha
    rw[List.drop_eq_getElem_cons hl,he,Tm.sizes])
   clear hcc hkT hcell hy ha hb hzV hbV
   go_upto_region 13 with fail
   rw[<-hV]
   clear hV
   go_wp2_with fail
   refine(HM.out a V y need' l' (by have h1:=HA.2.1;have h2:=HSZ.out;have h3:=lI q args;omega) HTV.out (HI.1.later HBV.out) (HA.1 q a HAQ.out).1 (HA.1 q a HAQ.out).2 (by have h1:=HSZ.out;have h2:=HI.2.2;have h3:=HA.2.2.1;omega)).mono ?_
   rintro e W5 ⟨rfl,⟨n5,l5,h5,h6⟩,hf5⟩
   have HN:=ad (aD h5 (aD h6 ((HI.2.1.trans (Fr.of_below _ HBV.out)).trans hf5)))
   clear h5 h6 hf5 y0 y1 y2 y3 v0 v1 v2 v3 hbl
   go_wp2_with fail
   go_roundw
   case rel=>exact⟨q+1,n5,l5,rfl,by omega,ad ⟨HN.1,HN.2.2,by have h1:=HSZ.out;have h2:=HI.2.2;have h3:=HN.2.1;omega⟩⟩
   case measure=>
    simp only[intOf]
    omega
  ·obtain rfl:q=len:=by omega
   have hng:¬(q:Int)<(q:Int):=by omega
   have HQ:Hid (P (.returned (.bool true)) wr):=ad (by
    rw[HP.out]
    refine⟨rfl,⟨need',l',HI.1,?_⟩,HI.2.1⟩
    have:=HI.2.2
    simp only[Tm.size]
    omega)
   clear hlt
   go_wp2_with fail
   exact HQ.out
theorem oS (pb sb:Nat) (vb:Option Nat) (fb:Nat):∀n,EA pb sb vb fb n
 |0=>fun t u x need l hs _ _ _ _ _=>by
  obtain⟨k,n,s,l⟩:=t
  simp only[Tm.size]at hs
  omega
 |n+1=>fun t u x need l hs hx h hm hv hnd=>by
  by_cases hk:x.k=1
  ·have H:t.size=1/\x.len=0/\fP x.n:=by
    cases hx with
    |mk _ args xs h1 h2 h3 hc ht=>
     obtain⟨m1,-,-⟩:=eX hm
     obtain⟨-,rfl⟩:=m1 hk
     refine⟨by simp[Tm.size,Tm.sizes],h2.symm,hv _ ?_⟩
     rw[dP,if_pos hk]
     exact List.mem_append_left _ (List.mem_singleton.2 rfl)
   rw[H.1]at hnd⊢
   exact xe u x hk H.2.1 H.2.2 h hnd
  ·exact ug n (oS pb sb vb fb n) u x t hs hk hx h hm hv hnd
end
end
section
open Go.RowKit Go.Maps
variable[Base]
def yD (y:Nat×Nat):List Value:=[ae (y.1:Nat),ae (y.2:Nat)]
omit[Base]in
theorem j9 (x:Nat×Nat):(yD x).length=2:=rfl
omit[Base]in
theorem zI (x:Nat×Nat):∀u∈yD x,u.oneCell'=true:=by
 intro u hu
 simp[yD]at hu
 rcases hu with rfl|rfl<;>rfl
omit[Base]in
theorem ui:∃i z,prog.info? 509=some i/\i.zero=some z/\i.size=2/\i.bytes=16/\z.cells.size=2:=by
 refine⟨_,_,rfl,rfl,?_,?_,?_⟩<;>kernel_rfl
structure cU (rb sb:Nat) (u:World) (safe:Bool) (w:Nat) (wv:Value) (ps:List (Nat×Nat)):Prop where
 blk:u.heap[rb]?=some (.cells #[ah sb,.bool safe,ae (w:Nat),wv] 471 (0,0))
 row:aS u (rb+1) 509 2 yD wv ps
 work:w<=20000
 few:ps.length<=100000000/\Base.b<=rb
def nV:List TypeId:=[471,509]
section
variable {rb sb:Nat} {u u':World} {safe:Bool} {w:Nat} {wv:Value} {ps:List (Nat×Nat)}
theorem cU.lt (h:cU rb sb u safe w wv ps):rb<u.heap.size:=(ap h.blk).1
theorem cU.ge (h:cU rb sb u safe w wv ps):Base.b<=rb:=h.few.2
theorem cU.cells (h:cU rb sb u safe w wv ps):u.cell? (ak rb 0)=some (ah sb)/\u.cell? (ak rb 1)=some (.bool safe)/\u.cell? (ak rb 2)=some (ae (w:Nat))/\u.cell? (ak rb 3)=some wv/\∀o,u.frozen? ⟨rb,o,none⟩=false:=aH h.blk
theorem cU.keep (h:cU rb sb u safe w wv ps) (hb:∀t b,t∈nV->aR u t b->u'.heap[b]?=u.heap[b]?):cU rb sb u' safe w wv ps:=
 ⟨(hb 471 rb (by decide) ⟨_,h.blk⟩).trans h.blk,h.row.keep fun k hk=>hb 509 k (by decide) (h.row.ty hk),h.work,h.few⟩
theorem cU.later (h:cU rb sb u safe w wv ps) (hb:aE u u'):cU rb sb u' safe w wv ps:=h.keep fun _ b _ ht=>hb.block b ht.lt
theorem cU.tf {tys:List TypeId} (h:cU rb sb u safe w wv ps) (hf:TF tys u u') (hn:∀t∈nV,t∉tys):cU rb sb u' safe w wv ps:=h.keep fun t _ ht hb=>hf.block hb (hn t ht)
theorem zb (h:cU rb sb u safe w wv ps) (a b:Nat) (hm:ps.length+1<=100000000):
 Calls prog 379 #[ah rb,ae (a:Nat),ae (b:Nat)] u fun e u'=>e=am/\(∃wv',cU rb sb u' safe w wv' (ps++[(a,b)]))/\TF nV u u':=by
 obtain⟨i0,z0,hi0,hz0,hz1,hz2,hz3⟩:=ui
 obtain⟨A2,cap2,hwv⟩:=h.row.shape
 subst hwv
 obtain⟨-,-,-,c3,cf⟩:=h.cells
 have H:=ad h
 have hl:=h.lt
 clear h
 refine aa fun P hP=>?_
 have HP:=ad hP
 clear hP
 go_enter func379,ntmps379
 go_wp2_with (at_builtin;refine cK rfl _ _ 469 rfl _ (rb+1) 509 i0 z0 2 16 yD underlying469 hi0 hz0 hz1 hz2 hz3 (by decide) j9 zI _ ps (a,b) rfl (H.row.alloc _) _ 1 rfl (fun j w hw=>by rw[bV _ _ _ j w (by rw[<-Array.getElem?_toList];exact hw)]) (by unfold maxLen;omega) (by omega) (by simp;omega) ?_)
 intro v' w2 hr hg
 obtain⟨A3,c3',rfl⟩:=hr.shape
 have hk:∀ {b' t'},aR u t' b'->t'≠509->w2.heap[b']?=u.heap[b']?:=fun {b' t'} hb hn=>by
  rw[hg.block b' (by rw[World.size_alloc];have:=hb.lt;omega) fun e=>hn (hb.same (H.row.ty e.symm)),aw _ _ _ hb.lt]
 have hb2:w2.heap[rb]?=_:=(hk (t':=471) ⟨_,H.blk⟩ (by decide)).trans H.blk
 obtain⟨s0,s1,s2,s3,sf⟩:=aH hb2
 have hf2:TF nV u w2:=((TF.refl nV u).alloc _).grown hg fun g e=>by
  obtain⟨iy,h0⟩:=H.row.ty e
  exact .inl ⟨by have:=(H.row.lt g e).1;have:=H.ge;omega,509,by decide,iy,by rw[aw _ _ _ (ap h0).1];exact h0⟩
 have hlw:rb<w2.heap.size:=(ap hb2).1
 have HN:Hid (cU rb sb (w2.setCell (ak rb 3) (.slice A3 (ps++[(a,b)]).length c3')) safe w (.slice A3 (ps++[(a,b)]).length c3') (ps++[(a,b)])/\TF nV u (w2.setCell (ak rb 3) (.slice A3 (ps++[(a,b)]).length c3'))):=ad
  ⟨⟨aK hb2 _,hr.keep fun k hk'=>av _ _ _ _ ((hr.ty hk').ne (t':=471) ⟨_,hb2⟩ (by decide)),H.work,⟨by rw[List.length_append];exact hm,H.ge⟩⟩,hf2.set (p:=(ak rb 3)) (t:=471) ⟨_,hb2⟩ (by decide) H.ge _⟩
 have hlen:(ps++[(a,b)]).length=ps.length+1:=by simp
 rw[hlen]at HN⊢
 clear hr hg hb2 hf2 hk hlen
 go_wp2_with fail
 exact bodyPost_end (v:=.tuple #[]) (by simp[results,results379,go_sem]) rfl (by rw[HP.out];exact⟨rfl,⟨_,HN.1⟩,HN.2⟩)
theorem uI (h:cU rb sb u safe w wv ps):
 Calls prog 380 #[ah rb] u fun e u'=>(w=20000/\e=.returned (.bool false)/\u=u')\/(w<20000/\e=.returned (.bool true)/\cU rb sb u' safe (w+1) wv ps/\TF nV u u'/\∀k,k≠rb->u'.heap[k]?=u.heap[k]?):=by
 obtain⟨-,-,c2,-,cf⟩:=h.cells
 have hl:=h.lt
 have hwk:=h.work
 by_cases hw:w<20000
 ·have hn:¬((w:Int)≥20000):=by omega
  have hwr:IntKind.i64.wrap ((w:Int)+1)=(w:Int)+1:=IntWalk.i64_in _ (by omega)
  have HN:Hid (cU rb sb (u.setCell (ak rb 2) (ae ((w:Int)+1))) safe (w+1) wv ps/\TF nV u (u.setCell (ak rb 2) (ae ((w:Int)+1)))):=ad
   ⟨⟨aK h.blk _,h.row.keep fun k hk'=>av _ _ _ _ ((h.row.ty hk').ne (t':=471) ⟨_,h.blk⟩ (by decide)),hw,h.few⟩,(TF.refl nV u).set (p:=(ak rb 2)) (t:=471) ⟨_,h.blk⟩ (by decide) h.ge _⟩
  clear h hwk
  refine aa fun P hP=>?_
  have HP:=ad hP
  clear hP
  go_enter func380,ntmps380
  go_wp2_with fail
  show P _ _
  rw[HP.out]
  exact .inr ⟨hw,rfl,HN.1,HN.2,fun k hk=>av _ _ _ _ hk⟩
 ·obtain rfl:w=20000:=by omega
  clear h hwk hw
  go_enter func380,ntmps380
  go_wp2_with fail
  go_ret
  first|exact .inl ⟨trivial,rfl,rfl⟩|simp
end
section
variable {sb room:Nat} {u u':World} {cv bv:Value} {xs:List ec} {cs:List Sc} {ys:List (Nat×Int)}
theorem uu (h:aL sb room u cv bv xs cs ys) {i:Nat} (hi:i<cs.length):Calls prog 348 #[ah sb,ae (i:Nat)] u fun e u'=>e=.returned (.bool true)/\u=u':=by
 obtain⟨j,hj⟩:=h.flw i hi
 have H:=ad h
 have HJ:=ad hj
 clear h hj
 go_enter func348,ntmps348
 go_wp2_with fail
 refine(ii H.out HJ.out).mono ?_
 rintro e w1 ⟨rfl,rfl⟩
 have hj0:(0:Int)<=(j:Int):=by omega
 go_wp2_with fail
 go_ret
 exact⟨rfl,rfl⟩
end
end
section
open Go.RowKit Go.Maps
variable[Base]
section
variable {rb sb room:Nat} {u u':World} {safe:Bool} {w:Nat} {wv cv bv:Value} {ps:List (Nat×Nat)} {xs:List ec} {cs:List Sc} {ys:List (Nat×Int)}
structure AI (rb sb:Nat) (u:World) (safe:Bool) (w0:Nat) (wv:Value) (ps:List (Nat×Nat)) (cs:List Sc) (gk:Nat) (v:Value) (wr:World) (w':Nat) (l:List Nat):Prop where
 un:cU rb sb wr safe w' wv ps
 fr:TF nV u wr
 row:aS wr u.heap.size 3 1 fq v l
 in':∀a∈l,a<cs.length
 few:l.length<=1+255*w'
 gas:w'+gk=20001
 up:w0<=w'
theorem DQ (h:cU rb sb u safe w wv ps) (hs:aL sb room u cv bv xs cs ys) (v i:Nat) (hi:i<cs.length):
 Calls prog 416 #[ah rb,ae (v:Nat),ae (i:Nat)] u fun e u'=>∃b z w',e=.returned (.tuple #[.bool b,ae z])/\cU rb sb u' safe w' wv ps/\aL sb room u' cv bv xs cs ys/\TF nV u u'/\w<=w':=by
 obtain⟨i0,z0,hi0,hz0,hz1,hz2,hz3⟩:=rh
 refine aa fun P hP=>?_
 have HP:=ad hP
 have hb0:aE u (u.alloc (.cells #[ae (i:Nat)] 3)):=aB
 have HI0:Hid (AI rb sb u safe w wv ps cs (20001-w) (al u.heap.size 1 1) (u.alloc (.cells #[ae (i:Nat)] 3)) w [i]):=ad
  ⟨h.later hb0,(TF.refl _ _).alloc _,aS.one dw u i aC,fun a ha=>by rw[List.mem_singleton]at ha;omega,by simp,by have:=h.work;omega,aC⟩
 have HST:Hid (∀wr,TF nV u wr->aL sb room wr cv bv xs cs ys):=ad fun wr hf=>hs.tf hf (by decide)
 clear hP h hs hb0
 go_enter func416,ntmps416
 go_wp2_with fail
 go_loopg [8] (20001-w) (fun gk x wr=>∃(w':Nat) (l:List Nat),Hid (AI rb sb u safe w wv ps cs gk x wr w' l))
 case atStart=>exact⟨w,[i],HI0⟩
 case round=>
  obtain⟨w',l,HI⟩:=hrel
  clear HI0
  by_cases hl:l=[]
  ·subst hl
   obtain⟨A2,c2,e2⟩:=HI.row.shape
   subst e2
   go_wp2_with fail
   show P (.returned (.tuple #[.bool false,ae 0])) wr
   rw[HP.out]
   exact⟨false,0,w',rfl,HI.un,HST.out _ HI.fr,HI.fr,HI.up⟩
  ·obtain⟨l0,a,rfl⟩:∃l0 a,l=l0++[a]:=⟨_,_,(List.dropLast_concat_getLast hl).symm⟩
   obtain⟨g,cap,e1,g1,g2,g3,g4⟩:=HI.row.cells dw hl
   rw[List.length_append,List.length_singleton]at e1 g3
   subst e1
   have q0:=(g4 l0.length a (by simp) 0 _ rfl).1
   rw[Nat.mul_one,Nat.add_zero]at q0
   obtain⟨p0,-,-,-,-⟩:=HI.un.cells
   obtain⟨j,hj⟩:=(HST.out _ HI.fr).flw a (HI.in' a (List.mem_append_right _ (List.mem_singleton.2 rfl)))
   have HJ:=ad hj
   have hfw:=HI.few
   rw[List.length_append,List.length_singleton]at hfw
   have hwk:=HI.un.work
   have hw1:IntKind.i64.wrap (l0.length:Int)=(l0.length:Int):=IntWalk.i64_in _ (by omega)
   have hn0:(0:Int)<=(l0.length:Int):=by omega
   have hn1:(0:Int)<(l0.length:Int)+1:=by omega
   have hn2:(l0.length:Int)<(l0.length:Int)+1:=by omega
   have HS:=ad (aD p0 q0)
   have hlw:=HI.un.lt
   clear g4 hl hj p0 q0 hfw hwk
   go_upto_region 3 with fail
   go_region_held3 (fun v=>v.cell? (ak rb 0)=some (ah sb)/\v.cell? (ak g l0.length)=some (ae (a:Nat)))
    (first|(with_reducible exact HS.out)|exact HS.out)
    (first|(go_at_call 199;refine(ii ((HST.out _ HI.fr).later aA.drew) HJ.out).mono ?_;rintro e w1 ⟨rfl,rfl⟩))
   have HI1:Hid (cU rb sb wr.drew safe w' wv ps/\aL sb room wr.drew cv bv xs cs ys/\TF nV u wr.drew/\aS wr.drew u.heap.size 3 1 fq (al g l0.length cap) l0):=ad
    ⟨HI.un.later aA.drew,(HST.out _ HI.fr).later aA.drew,HI.fr.drew,(aS.front dw HI.row).later aA.drew⟩
   have HIN:=ad (aD HI.in' (aD HI.few HI.gas))
   have HUP:=ad HI.up
   clear HI HS hlw
   obtain⟨W1,hW1⟩:∃W,W=wr.drew:=⟨_,rfl⟩
   rw[<-hW1]at HI1⊢
   clear hW1
   go_wp2_with fail
   refine(uI HI1.1).mono ?_
   rintro e W2 h
   rcases h with⟨h20,rfl,rfl⟩|⟨h20,rfl,hu2,hf2,-⟩
   ·clear h20
    go_wp2_with fail
    show P (.returned (.tuple #[.bool false,ae 16])) W1
    rw[HP.out]
    exact⟨false,16,w',rfl,HI1.1,HI1.2.1,HI1.2.2.1,HUP.out⟩
   have HI2:Hid (cU rb sb W2 safe (w'+1) wv ps/\aL sb room W2 cv bv xs cs ys/\TF nV u W2/\aS W2 u.heap.size 3 1 fq (al g l0.length cap) l0):=ad
    ⟨hu2,HI1.2.1.tf hf2 (by decide),HI1.2.2.1.trans hf2,hf2.row HI1.2.2.2 (by decide)⟩
   clear hu2 hf2 HI1
   by_cases hjv:j=v
   ·have hjb:((j:Int)==(v:Int))=true:=by rw[hjv];exact beq_self_eq_true _
    clear hjv
    go_wp2_with fail
    show P (.returned (.tuple #[.bool true,ae 0])) W2
    rw[HP.out]
    exact⟨true,0,w'+1,rfl,HI2.1,HI2.2.1,HI2.2.2.1,Nat.le_succ_of_le HUP.out⟩
   have hjb:((j:Int)==(v:Int))=false:=beq_eq_false_iff_ne.2 (by omega)
   obtain⟨c,hc,-⟩:=HJ.free
   have har:=HI2.2.1.ar j c hc
   obtain⟨p0,-,-,-,-⟩:=HI2.1.cells
   have HC:=ad hc
   clear hjv hc
   go_wp2_with fail
   refine(fo HI2.2.1 HJ.self HC.out (by omega)).mono ?_
   rintro e W3 ⟨A3,c3,rfl,ha3,hn3,hb3⟩
   obtain⟨W4,hW4⟩:∃W,W=W3.alloc (.cells #[ae (di j c).k,ae (di j c).n,.string ⟨(di j c).s.toArray⟩,.slice (di j c).A (di j c).len (di j c).cap] 27):=⟨_,rfl⟩
   have hb4:aE W3 W4:=by rw[hW4];exact aB
   have hb24:aE W2 W4:=hb3.trans (hb4.mono hb3.size)
   have HI4:Hid (cU rb sb W4 safe (w'+1) wv ps/\(∀b off,A3=some (ak b off)->b<W4.heap.size/\(al g l0.length cap).ownBlock≠some b)/\TF nV u W4/\aS W4 u.heap.size 3 1 fq (al g l0.length cap) l0/\bn W4 A3 c.args):=ad
    ⟨HI2.1.later hb24,fun b off e=>⟨Nat.lt_of_lt_of_le (hn3 b off e).2 hb4.size,fun e'=>by have h1:=(hn3 b off e).1;have h2:=(HI2.2.2.2.lt g rfl).2;have e2:g=b:=Option.some.inj e';omega⟩,HI2.2.2.1.later hb24,HI2.2.2.2.later hb24,ha3.later hb4⟩
   have HIA:Hid (∀a∈c.args,a<cs.length):=ad (HI2.2.1.args j c HC.out)
   unfold aU
   go_upto_region 10 with fail
   rw[<-hW4]
   clear hW4 hb3 hb4 hb24 ha3 hn3 HI2 p0
   obtain⟨n,hn⟩:∃n,n=c.args.length:=⟨_,rfl⟩
   rw[<-hn]at har⊢
   have HN:=ad hn
   have hwn:IntKind.i64.wrap ((n:Int)-1)=(n:Int)-1:=IntWalk.i64_in _ (by omega)
   clear hn
   obtain⟨wl,hwl⟩:∃wl:World,wl=wr:=⟨_,rfl⟩
   subst hwl
   go_wp2_with fail
   go_loopw [8,12] (fun x y wi=>∃(k:Nat) (l':List Nat),y=ae ((k:Int)-1)/\k<=n/\Hid (cU rb sb wi safe (w'+1) wv ps/\(∀b off,A3=some (ak b off)->b<wi.heap.size/\x.ownBlock≠some b)/\TF nV u wi/\aS wi u.heap.size 3 1 fq x l'/\bn wi A3 c.args/\(∀a∈l',a<cs.length)/\l'.length+k=l0.length+n)) (fun _ y _=>(intOf y+1).toNat)
   case atStart=>exact⟨n,l0,rfl,aC,ad ⟨HI4.1,HI4.2.1,HI4.2.2.1,HI4.2.2.2.1,HI4.2.2.2.2,fun b hb=>HIN.1 b (List.mem_append_left _ hb),rfl⟩⟩
   case round=>
    obtain⟨k,l',rfl,hkn,HJ4⟩:=hrel
    clear HI4
    obtain _|k:=k
    ·have hng:¬(((0:Nat):Int)-1≥0):=by omega
     have hgk:gk-1<gk:=by have:=HIN.2.2;omega
     have HNX:Hid (AI rb sb u safe w wv ps cs (gk-1) u8 wr (w'+1) l'):=ad ⟨HJ4.1,HJ4.2.2.1,HJ4.2.2.2.1,HJ4.2.2.2.2.2.1,by have:=HJ4.2.2.2.2.2.2;have:=HIN.2.1;simp at this;omega,by have:=HIN.2.2;omega,Nat.le_succ_of_le HUP.out⟩
     go_wp2_with fail
     go_roundg (gk-1)
     case measure=>exact hgk
     case rel=>exact⟨w'+1,l',HNX⟩
    ·obtain⟨a',ha'⟩:∃a',c.args[k]?=some a':=⟨_,au (by have:=HN.out;omega)⟩
     obtain⟨b,off,rfl,hb,q3⟩:=HJ4.2.2.2.2.1.at' k a' ha'
     obtain⟨A8,c8,e8⟩:=HJ4.2.2.2.1.shape
     subst e8
     have hbl:=hb.lt
     have HA':=ad ha'
     have ek:(((k+1:Nat):Int)-1)=(k:Int):=by omega
     have hk0:(0:Int)<=(k:Int):=by omega
     have hk1:(k:Int)<(n:Int):=by omega
     have hwk1:IntKind.i64.wrap ((k:Int)-1)=(k:Int)-1:=IntWalk.i64_in _ (by omega)
     have hlen:=HJ4.2.2.2.2.2.2
     have hfew:=HIN.2.1
     rw[List.length_append,List.length_singleton]at hfew
     have hsz:=HJ4.2.2.1.size
     rw[ek]
     clear ha' hb
     go_wp2_with (at_builtin;refine fh rfl _ _ 178 rfl _ u.heap.size 3 i0 z0 1 8 fq underlying178 hi0 hz0 hz1 hz2 hz3 (by decide) dw qJ _ l' a' rfl (HJ4.2.2.2.1.alloc _) _ 1 rfl (fun j w hw=>by rw[bV _ _ _ j w (by rw[<-Array.getElem?_toList];exact hw)]) (by unfold maxLen;omega) (by omega) (by simp;omega) ?_)
     intro g' cap' w5 hr hg hat
     have hba:aE wr (wr.alloc (.cells #[ae (a':Nat)] 3)):=aB
     have hk5:∀ {b' t'},aR wr t' b'->(Value.slice A8 l'.length c8).ownBlock≠some b'->w5.heap[b']?=wr.heap[b']?:=fun {b' t'} hb hn=>by
      rw[hg.block b' (by rw[World.size_alloc];have:=hb.lt;omega) fun e=>hn e.symm,aw _ _ _ hb.lt]
     have hrow:=HJ4.2.2.2.1
     have hu5:cU rb sb w5 safe (w'+1) wv ps:=HJ4.1.keep fun t b' ht hb=>hk5 hb fun e=>by
      have h1:=(hrow.ty e).same hb
      subst h1
      exact absurd ht (by decide)
     have hf5:TF nV u w5:=(HJ4.2.2.1.alloc _).grown hg fun g0 e=>.inr (hrow.lt g0 e).1
     have hA5:bn w5 (some (ak b off)) c.args:=⟨HJ4.2.2.2.2.1.nil,fun q x hx=>by
      obtain⟨b',off',e1,e2,e3⟩:=HJ4.2.2.2.2.1.at' q x hx
      have h1:=hk5 e2 (HJ4.2.1 b' off' e1).2
      exact⟨b',off',e1,e2.keep h1,(World.cell?_of_block (a:=⟨b',off'+q,none⟩) h1).trans e3⟩⟩
     have hD5:∀b' off',(some (ak b off):Option Addr)=some (ak b' off')->b'<w5.heap.size/\(al g' (l'.length+1) cap').ownBlock≠some b':=fun b' off' e=>by
      obtain⟨h1,h2⟩:=HJ4.2.1 b' off' e
      have h3:=hg.size
      rw[World.size_alloc]at h3
      refine⟨by omega,fun e'=>?_⟩
      have e2:g'=b':=Option.some.inj e'
      rcases hat with h4|h4
      ·exact h2 (h4.trans (by rw[e2]))
      ·have h5:g'=wr.heap.size+1:=by first|exact h4|(rw[h4,World.size_alloc])
       omega
     have HN5:=ad (aD hu5 (aD hD5 (aD hf5 (aD hr (aD hA5 (aD (fun z hz=>(List.mem_append.1 hz).elim (HJ4.2.2.2.2.2.1 z) fun hz=>by rw[List.mem_singleton]at hz;rw[hz];exact HIA.out a' (List.mem_of_getElem? HA'.out):∀z∈l'++[a'],z<cs.length) (show(l'++[a']).length+k=l0.length+n by rw[List.length_append,List.length_singleton];omega)))))))
     clear hr hg hat hba hk5 hrow hu5 hf5 hA5 hD5 hlen hfew hsz
     go_wp2_with fail
     go_roundw
     case rel=>exact⟨k,l'++[a'],rfl,by omega,HN5⟩
     case measure=>
      simp only[intOf]
      omega
end
end
section
open Go.RowKit Go.Maps
variable[Base]
def oD:List TypeId:=nV++lr
section
variable {rb sb room:Nat} {u u':World} {safe:Bool} {w:Nat} {wv cv bv:Value} {ps:List (Nat×Nat)} {xs:List ec} {cs:List Sc} {ys:List (Nat×Int)}
def vE (rb sb room:Nat) (u:World) (safe:Bool) (w:Nat) (wv cv bv:Value) (ps:List (Nat×Nat)) (xs:List ec) (cs:List Sc) (ys:List (Nat×Int)) (v t:Nat) (c:Sc) (e:Ending) (u':World):Prop:=
 (∃z w',safe=true/\w<=w'/\e=.returned (.tuple #[.bool false,ae z])/\cU rb sb u' safe w' wv ps/\aL sb room u' cv bv xs cs ys/\TF oD u u')∨
 (∃w' bv' xs' tp,(safe=false->w'=w)/\w<=w'/\e=.returned (.tuple #[.bool true,ae 0])/\cU rb sb u' safe w' wv ps/\aL sb room u' cv bv' xs' (cP cs v c (some t)) (ys++[(v,tp)])/\TF oD u u')
theorem vg (h:cU rb sb u safe w wv ps) (hs:aL sb room u cv bv xs cs ys) {v t:Nat} {c:Sc} (hv:bP cs v v) (ht:bP cs t t) (hne:v≠t) (hc:cs[v]?=some c) (hk:c.k=1) (hm:ys.length+1<=100000000) (kd:Int):
 Calls prog 396 #[ah rb,ae (v:Nat),ae (t:Nat),ae kd] u fun e u'=>vE rb sb room u safe w wv cv bv ps xs cs ys v t c e u':=by
 have H:=ad (aD h hs)
 have HB:Hid (∀u1,TF nV u u1->aL sb room u1 cv bv xs cs ys->Calls prog 417 #[ah sb,ae (v:Nat),ae (t:Nat)] u1 fun e u'=>e=.returned (ae 0)/\(∃bv' xs' tp,aL sb room u' cv bv' xs' (cP cs v c (some t)) (ys++[(v,tp)]))/\TF lr u1 u'):=ad fun u1 _ h1=>Aj h1 hv ht hne hc hk hm
 have HTL:=ad ht.lt
 obtain⟨p0,p1,-,-,-⟩:=h.cells
 have hl:=h.lt
 clear h hs hv ht hc hk
 refine aa fun P hP=>?_
 have HP:=ad hP
 clear hP
 have HEND:Hid (∀u1 w1,TF nV u u1->cU rb sb u1 safe w1 wv ps->(safe=false->w1=w)/\w<=w1->∀(e:Ending) u2,(e=.returned (ae 0)/\(∃bv' xs' tp,aL sb room u2 cv bv' xs' (cP cs v c (some t)) (ys++[(v,tp)]))/\TF lr u1 u2)->P (.returned (.tuple #[.bool true,ae 0])) u2):=ad fun u1 w1 hf hu hw e u2 h3=>by
  obtain⟨-,⟨bv',xs',tp,h4⟩,h5⟩:=h3
  rw[HP.out]
  exact .inr ⟨w1,bv',xs',tp,hw.1,hw.2,rfl,hu.tf h5 (by decide),h4,(hf.mono fun _ hx=>List.mem_append_left _ hx).trans (h5.mono fun _ hx=>List.mem_append_right _ hx)⟩
 by_cases hsf:safe=true/\kd≠1
 ·obtain⟨rfl,hkd⟩:=hsf
  have hk1:(kd !=1)=true:=bne_iff_ne.2 hkd
  go_enter func396,ntmps396
  go_wp2_with fail
  refine(DQ H.1 H.2 v t HTL.out).mono ?_
  rintro e u1 ⟨b,z,w1,rfl,hu1,hs1,hf1,hw1⟩
  have HU:=ad (aD hu1 (aD hs1 (aD hf1 hw1)))
  obtain⟨q0,-,-,-,-⟩:=hu1.cells
  have hl1:=hu1.lt
  have HPF:Hid (P (.returned (.tuple #[.bool false,ae z])) u1):=ad (by
   rw[HP.out]
   exact .inl ⟨z,w1,rfl,hw1,rfl,hu1,hs1,hf1.mono fun _ hx=>List.mem_append_left _ hx⟩)
  clear hu1 hs1 hf1 hw1
  cases b with
  |true=>
   go_wp2_with fail
   exact HPF.out
  |false=>
   by_cases hz:z=0
   ·subst hz
    go_wp2_with fail
    refine(HB.out _ HU.2.2.1 HU.2.1).mono ?_
    intro e u2 h3
    have HQ:=ad (HEND.out _ _ HU.2.2.1 HU.1 ⟨fun e=>(by cases e),HU.2.2.2⟩ e u2 h3)
    obtain⟨rfl,-,-⟩:=h3
    go_wp2_with fail
    exact HQ.out
   ·have hz1:(z !=0)=true:=bne_iff_ne.2 hz
    go_wp2_with fail
    exact HPF.out
 ·have hcase:safe=false\/kd=1:=by
   cases safe with
   |false=>exact .inl rfl
   |true=>exact .inr (Decidable.byContradiction fun e=>hsf ⟨rfl,e⟩)
  clear hsf
  rcases hcase with rfl|rfl
  ·go_enter func396,ntmps396
   go_wp2_with fail
   refine(HB.out _ (TF.refl _ _) H.2).mono ?_
   intro e u2 h3
   have HQ:=ad (HEND.out _ _ (TF.refl _ _) H.1 ⟨fun _=>rfl,aC⟩ e u2 h3)
   obtain⟨rfl,-,-⟩:=h3
   go_wp2_with fail
   exact HQ.out
  ·cases safe with
   |false=>
    go_enter func396,ntmps396
    go_wp2_with fail
    refine(HB.out _ (TF.refl _ _) H.2).mono ?_
    intro e u2 h3
    have HQ:=ad (HEND.out _ _ (TF.refl _ _) H.1 ⟨fun _=>rfl,aC⟩ e u2 h3)
    obtain⟨rfl,-,-⟩:=h3
    go_wp2_with fail
    exact HQ.out
   |true=>
    go_enter func396,ntmps396
    go_wp2_with fail
    refine(HB.out _ (TF.refl _ _) H.2).mono ?_
    intro e u2 h3
    have HQ:=ad (HEND.out _ _ (TF.refl _ _) H.1 ⟨fun _=>rfl,aC⟩ e u2 h3)
    obtain⟨rfl,-,-⟩:=h3
    go_wp2_with fail
    exact HQ.out
end
end
section
open Go.RowKit Go.Maps
variable[Base]
omit[Base]in
theorem Dk (j:Nat) (c:Sc):(di j c).k=c.k:=by
 unfold di
 split
 ·rename_i h
  exact h.symm
 ·rfl
omit[Base]in
theorem Bw (j:Nat) (c:Sc) (h:c.k≠1):(di j c).n=c.n/\(di j c).s=c.s:=by
 unfold di
 rw[if_neg h]
 exact⟨rfl,rfl⟩
section
variable {rb sb room:Nat} {u u':World} {safe:Bool} {w:Nat} {wv cv bv:Value} {ps:List (Nat×Nat)} {xs:List ec} {cs:List Sc} {ys:List (Nat×Int)}
def eJ (rb sb room:Nat) (u:World) (safe:Bool) (w:Nat) (ps:List (Nat×Nat)) (cs:List Sc) (ys:List (Nat×Int)) (a b:Nat) (e:Ending) (u':World):Prop:=
 ∃(ok:Bool) (z:Int) (w':Nat) (wv' cv' bv':Value) (ps':List (Nat×Nat)) (xs':List ec) (cs':List Sc) (ys':List (Nat×Int)),
  e=.returned (.tuple #[.bool ok,ae z])/\cU rb sb u' safe w' wv' ps'/\aL sb room u' cv' bv' xs' cs' ys'/\TF oD u u'/\w<=w'/\cs'.length=cs.length/\(∃e',ys'=ys++e'/\ys'.length<=ys.length+1)/\ps'.length<=ps.length+255/\(∀p∈ps',p∈ps\/p.1<cs.length/\p.2<cs.length)∧
  (ok=false->∀bs r w0,w0+1=w->l6 safe cs bs ((a,b)::r) w0 (false,z) cs bs)∧
  (ok=true->∃d bs',ps'=ps++d.reverse/\ys'.map (·.1)=ys.map (·.1)++bs'/\∀bs r R cs9 bs9 w0,w0+1=w->l6 safe cs' (bs++bs') (d++r) w' R cs9 bs9->l6 safe cs bs ((a,b)::r) w0 R cs9 bs9)
theorem eJ.bind {a b ra rr v t:Nat} {x:Sc} {W:World} {e:Ending} (hf:TF oD u W) (hra:bP cs a ra) (hrr:bP cs b rr) (hne:ra≠rr) (hv:(v=ra/\t=rr)\/(v=rr/\t=ra)) (hx:cs[v]?=some x) (hk:x.k=1) (h:vE rb sb room W safe w wv cv bv ps xs cs ys v t x e u'):eJ rb sb room u safe w ps cs ys a b e u':=by
 rcases h with⟨z,w',hs,hw,rfl,h1,h2,h3⟩|⟨w',bv',xs',tp,hw,hw2,rfl,h1,h2,h3⟩
 ·exact⟨false,z,w',wv,cv,bv,ps,xs,cs,ys,rfl,h1,h2,hf.trans h3,hw,rfl,⟨[],by simp,by omega⟩,by omega,fun p hp=>.inl hp,fun _ bs r w0 _=>.occurs hs,fun e=>(by cases e)⟩
 ·refine⟨true,0,w',wv,cv,bv',ps,xs',_,_,rfl,h1,h2,hf.trans h3,hw2,dE ..,⟨[(v,tp)],rfl,by simp⟩,by omega,fun p hp=>.inl hp,fun e=>(by cases e),fun _=>⟨[],[v],by simp,by simp,fun bs r R cs9 bs9 w0 e hU=>?_⟩⟩
  exact .bind hra hrr hne hv hx hk (fun es=>by rw[hw es];omega) hU
theorem eJ.same {a b j:Nat} {W:World} (hf:TF oD u W) (hra:bP cs a j) (hrr:bP cs b j) (h:cU rb sb W safe w wv ps) (hs:aL sb room W cv bv xs cs ys):eJ rb sb room u safe w ps cs ys a b (.returned (.tuple #[.bool true,ae 0])) W:=
 ⟨true,0,w,wv,cv,bv,ps,xs,cs,ys,rfl,h,hs,hf,aC,rfl,⟨[],by simp,by omega⟩,by omega,fun p hp=>.inl hp,fun e=>(by cases e),fun _=>⟨[],[],by simp,by simp,fun bs r R cs9 bs9 w0 e hU=>by subst e;rw[List.append_nil]at hU;exact .same hra hrr hU⟩⟩
theorem eJ.clash {a b i j:Nat} {x y:Sc} {W:World} (hf:TF oD u W) (hra:bP cs a i) (hrr:bP cs b j) (hx:cs[i]?=some x) (hy:cs[j]?=some y) (hk:x.k≠1) (hk':y.k≠1) (hn:¬(x.k=y.k/\x.n=y.n/\x.s=y.s/\x.args.length=y.args.length)) (h:cU rb sb W safe w wv ps) (hs:aL sb room W cv bv xs cs ys):
 eJ rb sb room u safe w ps cs ys a b (.returned (.tuple #[.bool false,ae 0])) W:=
 ⟨false,0,w,wv,cv,bv,ps,xs,cs,ys,rfl,h,hs,hf,aC,rfl,⟨[],by simp,by omega⟩,by omega,fun p hp=>.inl hp,fun _ bs r w0 _=>.clash hra hrr hx hy hk hk' hn,fun e=>(by cases e)⟩
theorem eJ.args {a b i j:Nat} {x y:Sc} {W:World} {wv':Value} (hf:TF oD u W) (hra:bP cs a i) (hrr:bP cs b j) (hx:cs[i]?=some x) (hy:cs[j]?=some y) (hk:x.k≠1) (hk':y.k≠1) (hn:x.k=y.k/\x.n=y.n/\x.s=y.s/\x.args.length=y.args.length) (h:cU rb sb W safe w wv' (ps++(x.args.zip y.args).reverse)) (hs:aL sb room W cv bv xs cs ys):
 eJ rb sb room u safe w ps cs ys a b (.returned (.tuple #[.bool true,ae 0])) W:=by
 have h1:=hs.ar i x hx
 refine⟨true,0,w,wv',cv,bv,_,xs,cs,ys,rfl,h,hs,hf,aC,rfl,⟨[],by simp,by omega⟩,?_,fun p hp=>?_,fun e=>(by cases e),fun _=>⟨x.args.zip y.args,[],rfl,by simp,fun bs r R cs9 bs9 w0 e hU=>by subst e;rw[List.append_nil]at hU;exact .args hra hrr hx hy hk hk' hn hU⟩⟩
 ·rw[List.length_append,List.length_reverse,List.length_zip]
  omega
 ·rcases List.mem_append.1 hp with hp|hp
  ·exact .inl hp
  ·rw[List.mem_reverse]at hp
   obtain⟨q,e1,e2⟩:=qe hp
   exact .inr ⟨hs.args i x hx _ (List.mem_of_getElem? e1),hs.args j y hy _ (List.mem_of_getElem? e2)⟩
end
end
end Go.Proofs.YtigeofkllldilaaGreatDoor
