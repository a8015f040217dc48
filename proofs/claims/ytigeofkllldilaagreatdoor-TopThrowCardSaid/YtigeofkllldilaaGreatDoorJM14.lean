import Derived.Test.YtigeofkllldilaaGreatDoorJM05
import Derived.BigQuiet
import Derived.StillTailTactics
import Derived.Shelf.Small.Strs
import Derived.Shelf.Strings.Shaped
import Derived.Shelf.Strings.Prefix
import Derived.Deep.DeepCutAuto
import Derived.Deep.RegionHeld3
set_option maxHeartbeats 32000000
set_option maxRecDepth 100000
set_option linter.unusedSectionVars false
open Go.Proofs.Tryz
namespace Go.Proofs.YtigeofkllldilaaGreatDoor
section
structure dq where
 kind:Int
 line:Int
 n:Int
 s:List UInt8
 opn:Bool
 tight:Bool
def Et (p:UInt8->Bool) (l:List UInt8):Nat:=(l.takeWhile p).length
structure fl where
 kind:Int
 n:Int
 s:List UInt8
 len:Nat
def De:List UInt8->Option Nat
 |[]=>none
 |c::r=>if c=42/\r.head?=some 47 then some 0 else(De r).map (·+1)
def vd:Nat->List UInt8->List UInt8×Bool
 |0,l=>(l,true)
 |_+1,[]=>([],true)
 |f+1,c::r=>
  if fT c=1 then vd f r
  else if c=37 then vd f (r.drop (Et (fun c=>decide (c≠10)) r))
  else if c=47/\r.head?=some 42 then
   match De r.tail with
   |none=>(c::r,false)
   |some n=>vd f (r.tail.drop (n+2))
  else(c::r,true)
def lC (l:List UInt8):Nat:=l.count 10
structure qm where
 pre:List UInt8->Int×Int
 inf:List UInt8->Int×Int×Int
 post:List UInt8->Int×Int
structure lR where
 use:Int
 most:Int
 name:List UInt8
 pri:Int
 l:List Tm
structure cI where
 at':Nat
 wait:List lR
 most:Int
 hv:Bool
 t:Tm
 pri:Int
 vars:List (List UInt8×Int)
 names:List (List UInt8×Int)
 cnt:Int
def At:dq:=⟨0,0,0,[],false,false⟩
def bg (ts:List dq) (i:Nat):dq:=ts.getD i At
def kK (ts:List dq) (i:Nat) (c:UInt8):Bool:=decide ((bg ts i).kind=6)&&decide ((bg ts i).s=[c])
def iv (n:Int):Tm:=.mk 2 n [] []
def Fp (n:Int):Int:=if n= -9223372036854775808 then n else-n
def jk (n:Int):Tm:=.mk 1 n [] []
def fG (s:List UInt8):Tm:=.mk 3 0 s []
def jq (s:List UInt8) (l:List Tm):Tm:=.mk 4 0 s l
def ym (l:List Tm) (tail:Tm):Tm:=l.foldr (fun x t=>jq [46] [x,t]) tail
def EO:Tm:=fG [91,93]
def cI.done (s:cI) (t:Tm) (pri:Int):cI:= {s with t:=t,pri:=pri,hv:=true}
def cI.go (s:cI) (n:Nat):cI:= {s with at':=s.at'+n}
def cI.want (s:cI) (most:Int):cI:= {s with most:=most,hv:=false}
def cI.again (s:cI) (f:lR) (most:Int):cI:= {s with wait:=f::s.wait,most:=most,hv:=false}
def cI.await (s:cI) (f:lR) (most:Int):cI:=s.again {f with most:=s.most} most
def cI.expect (ts:List dq) (s:cI) (c:UInt8):Except Nat cI:=if kK ts s.at' c then .ok (s.go 1)else .error s.at'
def Dm (ts:List dq) (s:cI) (name:List UInt8):Except Nat cI:=
 match s.expect ts 40 with
 | .error a=>.error a
 | .ok s=>.ok (s.await ⟨2,0,name,0,[]⟩ 999)
def Fm (s:cI) (x:List UInt8):cI:=
 match s.vars.find? (fun y=>decide (y.1=x))with
 |some y=>s.done (jk y.2) 0
 |none=>
  let s':= {s with cnt:=s.cnt+1}
  (if x=[95]then s' else {s' with vars:=s.vars++[(x,s.cnt)],names:=s.names++[(x,s.cnt)]}).done (jk s.cnt) 0
def C9 (ts:List dq) (s:cI) (c:UInt8):Except Nat cI:=
 let name:=(bg ts s.at').s++[c]
 let opn:=(bg ts (s.at'+1)).opn
 if opn then Dm ts (s.go 2) name else .ok ((s.go 2).done (fG name) 0)
def D1 (ts:List dq) (s:cI) (x:List UInt8):Except Nat cI:=
 if x=[40]then .ok ((s.go 1).await ⟨0,0,[],0,[]⟩ 1200)
 else if x=[91]then(if kK ts (s.at'+1) 93 then C9 ts s 93 else .ok ((s.go 1).await ⟨3,0,[],0,[]⟩ 999))
 else if x=[123]then(if kK ts (s.at'+1) 125 then C9 ts s 125 else .ok ((s.go 1).await ⟨1,0,[],0,[]⟩ 1200))
 else .error s.at'
def CY (o:qm) (t:dq):Bool:=
 if t.kind=3\/t.kind=4\/t.kind=5 then true
 else if t.kind=6 then decide (t.s=[40]\/t.s=[91]\/t.s=[123])
 else if t.kind=1\/t.kind=2 then
  (if t.opn then true else decide (((o.inf t.s).1=0/\(o.post t.s).1=0)\/0<(o.pre t.s).1))
 else false
def Ew (o:qm) (ts:List dq) (s:cI) (t:dq):Except Nat cI:=
 let n:=bg ts (s.at'+1)
 if t.kind=1/\t.s=[45]/\n.kind=3/\n.tight=true then .ok ((s.go 2).done (iv (Fp n.n)) 0)
 else if t.opn then Dm ts (s.go 1) t.s
 else if 0<(o.pre t.s).1/\(o.pre t.s).1<=s.most/\CY o n=true then .ok ((s.go 1).await ⟨5,0,t.s,(o.pre t.s).1,[]⟩ (o.pre t.s).2)
 else .ok ((s.go 1).done (fG t.s) 0)
def Bq (o:qm) (ts:List dq) (s:cI):Except Nat cI:=
 let t:=bg ts s.at'
 if t.kind=3 then(if t.n<0 then .error s.at' else .ok ((s.go 1).done (iv t.n) 0))
 else if t.kind=4 then .ok (Fm (s.go 1) t.s)
 else if t.kind=5 then .ok ((s.go 1).done (ym (t.s.map fun c=>iv c.toNat) EO) 0)
 else if t.kind=6 then D1 ts s t.s
 else if t.kind=1\/t.kind=2 then Ew o ts s t
 else .error s.at'
def xM (o:qm) (ts:List dq) (s:cI):Option cI:=
 let t:=bg ts s.at'
 if t.kind≠1/\t.kind≠2/\kK ts s.at' 44=false then none
 else if 0<(o.inf t.s).1/\(o.inf t.s).1<=s.most/\s.pri<=(o.inf t.s).2.1 then some ((s.go 1).await ⟨6,0,t.s,(o.inf t.s).1,[s.t]⟩ (o.inf t.s).2.2)
 else if 0<(o.post t.s).1/\(o.post t.s).1<=s.most/\s.pri<=(o.post t.s).2 then some ((s.go 1).done (jq t.s [s.t]) (o.post t.s).1)
 else none
def ER (ts:List dq) (s:cI) (f:lR):Except Nat cI:=
 if f.use=0 then(s.expect ts 41).map fun s=>s.done s.t 0
 else if f.use=1 then(s.expect ts 125).map fun s=>s.done (jq [123,125] [s.t]) 0
 else if f.use=5 then .ok (s.done (jq f.name [s.t]) f.pri)
 else if f.use=6 then .ok (s.done (jq f.name (f.l++[s.t])) f.pri)
 else if f.use=2 then
  let f:= {f with l:=f.l++[s.t]}
  (if kK ts s.at' 44 then .ok ((s.go 1).again f 999)else(s.expect ts 41).map fun s=>s.done (jq f.name f.l) 0)
 else if f.use=3 then
  let f:= {f with l:=f.l++[s.t]}
  (if kK ts s.at' 44 then .ok ((s.go 1).again f 999)
  else if kK ts s.at' 124 then .ok ((s.go 1).again {f with use:=4} 999)
  else(s.expect ts 93).map fun s=>s.done (ym f.l EO) 0)
 else if f.use=4 then(s.expect ts 93).map fun s=>s.done (ym f.l s.t) 0
 else .ok s
def EX (ts:List dq) (s:cI) (f:lR) (r:List lR):Except Nat cI:=ER ts {s with wait:=r,most:=f.most} f
inductive Fy
 |on (s:cI)
 |fin (s:cI)
 |bad (a:Nat)
def FM:Except Nat cI->Fy
 | .ok s=>.on s
 | .error a=>.bad a
def DK (o:qm) (ts:List dq) (s:cI):Fy:=
 if s.hv=false then FM (Bq o ts s)
 else match xM o ts s with
  |some s=>.on s
  |none=>
   match s.wait with
   |f::r=>FM (EX ts s f r)
   |[]=>if(bg ts s.at').kind≠7 then .bad s.at' else .fin s
def EV (ts:List dq) (s:cI):Nat:=3*(ts.length-s.at')+s.wait.length+(if s.hv then 0 else 1)
def En (o:qm) (ts:List dq):Nat->cI->Fy
 |0,s=>.on s
 |n+1,s=>
  match DK o ts s with
  | .on s=>En o ts n s
  | .fin s=>.fin s
  | .bad a=>.bad a
def yE (i:Nat):cI:=⟨i,[],1200,false,.mk 0 0 [] [],0,[],[],0⟩
def vi:List dq->Nat->Nat
 |[],i=>i
 |t::r,i=>if t.kind=7 then i+1 else if t.kind=0 then i else vi r (i+1)
structure pN where
 t:Tm
 names:List (List UInt8×Int)
 line:Int
 next:Int
def aQ:Tm:=.mk 0 0 [] []
def Ch (ts:List dq) (a:Nat):pN:=
 if ts.length<=a then⟨aQ,[],0,(ts.length:Int)⟩else⟨aQ,[],(bg ts a).line,(vi (ts.drop a) a:Int)⟩
def qC (o:qm) (ts:List dq) (i:Int):pN×Int:=
 if i<0\/(ts.length:Int)<=i\/(bg ts i.toNat).kind=0 then(⟨aQ,[],0,0⟩,7)
 else match En o ts (EV ts (yE i.toNat)+1) (yE i.toNat)with
  | .on _=>(⟨aQ,[],0,0⟩,7)
  | .bad a=>(Ch ts a,6)
  | .fin s=>
   if s.t.may=false then(⟨aQ,[],(bg ts i.toNat).line,(s.at':Int)+1⟩,3)
   else if 2000<s.t.deep then(⟨aQ,[],(bg ts i.toNat).line,(s.at':Int)+1⟩,4)
   else if 20000<s.t.size then(⟨aQ,[],(bg ts i.toNat).line,(s.at':Int)+1⟩,3)
   else(⟨s.t,s.names,(bg ts i.toNat).line,(s.at':Int)+1⟩,0)
theorem kB {ts:List dq} {i:Nat} (h:(bg ts i).kind≠0):i<ts.length:=by
 rcases Nat.lt_or_ge i ts.length with h1|h1
 ·exact h1
 ·unfold bg at h
  rw[List.getD_eq_getElem?_getD,List.getElem?_eq_none h1]at h
  exact absurd rfl h
theorem AD {ts:List dq} {i:Nat} {c:UInt8} (h:kK ts i c=true):i<ts.length:=by
 apply kB
 unfold kK at h
 simp at h
 omega
open Go.RowKit
theorem sC {w E u:World} (h:aE w E) (hb:aE E u):aE w u:=h.trans (hb.mono h.size)
structure fg (w:World) (B:Nat) (A:Option Addr) (n:Nat) (l:List dq):Prop where
 len:l.length=n
 at':∀(i:Nat) (t:dq),l[i]?=some t->∃b off,A=some (ak b off)/\b<B/\w.cell? (ak b (off+i*6))=some (ae t.kind)/\w.cell? (ak b (off+i*6+1))=some (ae t.line)/\w.cell? (ak b (off+i*6+2))=some (ae t.n)∧
  w.cell? (ak b (off+i*6+3))=some (af t.s)/\w.cell? (ak b (off+i*6+4))=some (.bool t.opn)/\w.cell? (ak b (off+i*6+5))=some (.bool t.tight)
theorem fg.keep {w w':World} {B:Nat} {A:Option Addr} {n:Nat} {l:List dq} (h:fg w B A n l) (hb:∀k,k<B->w'.heap[k]?=w.heap[k]?):fg w' B A n l:=
 ⟨h.len,fun i t ht=>by
  obtain⟨b,off,h1,h2,c0,c1,c2,c3,c4,c5⟩:=h.at' i t ht
  exact⟨b,off,h1,h2,(World.cell?_of_block (a:=⟨b,off+i*6,none⟩) (hb b h2)).trans c0,(World.cell?_of_block (a:=⟨b,off+i*6+1,none⟩) (hb b h2)).trans c1,(World.cell?_of_block (a:=⟨b,off+i*6+2,none⟩) (hb b h2)).trans c2,
   (World.cell?_of_block (a:=⟨b,off+i*6+3,none⟩) (hb b h2)).trans c3,(World.cell?_of_block (a:=⟨b,off+i*6+4,none⟩) (hb b h2)).trans c4,(World.cell?_of_block (a:=⟨b,off+i*6+5,none⟩) (hb b h2)).trans c5⟩⟩
def jm (t:dq):Value:=.agg #[ae t.kind,ae t.line,ae t.n,af t.s,.bool t.opn,.bool t.tight]
structure jr where
 A:Option Addr
 n:Nat
 c:Nat
 ob:Value
 bv:Value
 wv:Value
 x:TV
 vb:Value
 nv:Value
def bT (v:jr) (s:cI):Array Value:=
 #[.slice v.A v.n v.c,ae (s.at':Int),v.ob,v.bv,v.wv,ae s.most,.bool s.hv,ae v.x.k,ae v.x.n,af v.x.s,.slice v.x.A v.x.len v.x.cap,ae s.pri,v.vb,v.nv,ae s.cnt]
def vr (u:World) (rb:Nat) (v:jr) (s:cI):Prop:=u.heap[rb]?=some (.cells (bT v s) 148 (0,0))
theorem vr.lt {u:World} {rb:Nat} {v:jr} {s:cI} (h:vr u rb v s):rb<u.heap.size:=(ap h).1
theorem vr.later {u u':World} {rb:Nat} {v:jr} {s:cI} (h:vr u rb v s) (hb:aE u u'):vr u' rb v s:=(hb.block _ h.lt).trans h
theorem vr.cell {u:World} {rb:Nat} {v:jr} {s:cI} (h:vr u rb v s) {i:Nat} {x:Value} (hx:(bT v s)[i]?=some x):u.cell? (ak rb i)=some x:=by
 rw[cell_of_row u rb i _ _ (0,0) h]
 exact hx
theorem vr.free {u:World} {rb:Nat} {v:jr} {s:cI} (h:vr u rb v s) (o:Nat):u.frozen? ⟨rb,o,none⟩=false:=by simp[World.frozen?,show u.heap[rb]?=_ from h]
theorem vr.put {u:World} {rb:Nat} {v v':jr} {s s':cI} (h:vr u rb v s) (i:Nat) (x:Value) (he:(bT v s).setIfInBounds i x=bT v' s'):vr (u.setCell (ak rb i) x) rb v' s':=by
 have:=aK (i:=i) h x
 rw[he]at this
 exact this
structure bU (u:World) (rb:Nat) (v:jr) (ts:List dq) (s:cI) (B:Nat):Prop where
 blk:vr u rb v s
 toks:fg u B v.A v.n ts
 base:B<=rb
 few:ts.length<=20000
 in':s.at'<=ts.length
theorem bU.later {u u':World} {rb:Nat} {v:jr} {ts:List dq} {s:cI} {B:Nat} (h:bU u rb v ts s B) (hb:aE u u'):bU u' rb v ts s B:=
 ⟨h.blk.later hb,h.toks.keep fun k hk=>hb.block k (by have:=h.blk.lt;have:=h.base;omega),h.base,h.few,h.in'⟩
theorem bU.put {u:World} {rb:Nat} {v v':jr} {ts:List dq} {s s':cI} {B:Nat} (h:bU u rb v ts s B) (i:Nat) (x:Value) (he:(bT v s).setIfInBounds i x=bT v' s') (hA:v'.A=v.A) (hn:v'.n=v.n) (hi:s'.at'<=ts.length):bU (u.setCell (ak rb i) x) rb v' ts s' B:=
 ⟨h.blk.put i x he,by rw[hA,hn];exact h.toks.keep fun k hk=>Deep.blk_setCell_other _ _ _ _ (by have:=h.base;show k≠rb;omega),h.base,h.few,hi⟩
theorem iE (u:World) (rb:Nat) (v:jr) (ts:List dq) (s:cI) (B:Nat) (h:bU u rb v ts s B) (k:Nat) (hk:k<=2):
 Calls prog 126 #[ah rb,ae k] u fun e u'=>e=.returned (jm (bg ts (s.at'+k)))/\aE u u':=by
 have c0:u.cell? (ak rb 0)=some (.slice v.A v.n v.c):=h.blk.cell (i:=0) rfl
 have c1:u.cell? (ak rb 1)=some (ae (s.at':Int)):=h.blk.cell (i:=1) rfl
 have hlt:=h.blk.lt
 have hf:=h.few
 have hin:=h.in'
 have hln:=h.toks.len
 have HT:=ad h.toks
 have hlu:B<=u.heap.size:=by have:=h.base;omega
 obtain⟨A,n,c,ob,bv,wv,x,vb,nv⟩:=v
 simp only at c0 hln HT
 clear h
 obtain⟨a,ha⟩:∃a,a=s.at':=⟨_,rfl⟩
 rw[<-ha]at c1 hin⊢
 clear ha
 by_cases hlast:a+k<ts.length
 ·have hg:=au hlast
  have hp:bg ts (a+k)=ts[a+k]:=by unfold bg;rw[List.getD_eq_getElem?_getD,hg];rfl
  rw[hp]
  generalize ts[a+k]=t at hg
  obtain⟨b,off,e1,e2,d0,d1,d2,d3,d4,d5⟩:=HT.at' _ t hg
  subst e1
  have hbl:b<u.heap.size:=by omega
  have hl1:(a:Int)+(k:Int)<(n:Int):=by omega
  have hl0:(0:Int)<=(a:Int)+(k:Int):=by omega
  have hsum:(a:Int)+(k:Int)=((a+k:Nat):Int):=by omega
  have hl2:((a+k:Nat):Int)<(n:Int):=by omega
  have hl3:(0:Int)<=((a+k:Nat):Int):=by omega
  clear hg hp hln
  generalize a+k=m at*
  have hwr:IntKind.i64.wrap ((a:Int)+(k:Int))=(m:Int):=by rw[hsum];exact IntWalk.i64_in _ (by omega)
  have hwm:IntKind.i64.wrap (m:Int)=(m:Int):=IntWalk.i64_in _ (by omega)
  clear hsum
  unfold jm
  go_enter func126,ntmps126
  go_wp2_with fail
  go_quiet (fail)
  go_wp2_with fail
  have hbW:aE u ((u.alloc (.cells #[ae 0,ae 0,ae 0,ai,.bool false,.bool false] 139)).drewN nq):=gU (kr aA _) nq
  have hnew:((u.alloc (.cells #[ae 0,ae 0,ae 0,ai,.bool false,.bool false] 139)).drewN nq).heap[u.heap.size]?=some (.cells #[ae 0,ae 0,ae 0,ai,.bool false,.bool false] 139 (0,0)):=heap_alloc_new u _
  generalize (u.alloc (.cells #[ae 0,ae 0,ae 0,ai,.bool false,.bool false] 139)).drewN nq=W at hbW hnew⊢
  have w0:=(hbW.cell (p:=(ak rb 0)) hlt).trans c0
  have w1:=(hbW.cell (p:=(ak rb 1)) hlt).trans c1
  have y0:=(hbW.cell (p:=(ak b (off+m*6))) hbl).trans d0
  have y1:=(hbW.cell (p:=(ak b (off+m*6+1))) hbl).trans d1
  have y2:=(hbW.cell (p:=(ak b (off+m*6+2))) hbl).trans d2
  have y3:=(hbW.cell (p:=(ak b (off+m*6+3))) hbl).trans d3
  have y4:=(hbW.cell (p:=(ak b (off+m*6+4))) hbl).trans d4
  have y5:=(hbW.cell (p:=(ak b (off+m*6+5))) hbl).trans d5
  obtain⟨n0,n1,n2,n3,n4,n5,nf⟩:=iT hnew
  have HBW:=ad hbW
  clear c0 c1 d0 d1 d2 d3 d4 d5 hbW hnew
  (refine wp_region_still_tail 12 (by kernel_rfl) (by kernel_rfl) ?_;simp only[List.take_succ_cons,List.take_zero,List.drop_succ_cons,List.drop_zero];repeat (with_reducible refine wpStill_step ?_;intro KK hKK;go_simp;with_reducible refine hKK _ ?_;clear hKK KK));try (with_reducible refine wpStill_nil ?_)
  go_wp2_with fail
  have hul:u.heap.size<W.heap.size:=World.block_lt_of_cell? W _ n0
  exact bodyPost_ret (v:=.agg #[ae t.kind,ae t.line,ae t.n,af t.s,.bool t.opn,.bool t.tight]) (by simp[results,results126,go_sem,n0,n1,n2,n3,n4,n5]) rfl
   ⟨rfl,((((((HBW.setCell (p:=(ak u.heap.size 0)) aC _).setCell (p:=(ak u.heap.size 1)) aC _).setCell (p:=(ak u.heap.size 2)) aC _).setCell (p:=(ak u.heap.size 3)) aC _).setCell (p:=(ak u.heap.size 4)) aC _).setCell (p:=(ak u.heap.size 5)) aC _).drew⟩
 ·have hp:bg ts (a+k)=At:=by unfold bg;rw[List.getD_eq_getElem?_getD,List.getElem?_eq_none (by omega)];rfl
  rw[hp]
  have hl1:¬((a:Int)+(k:Int)<(n:Int)):=by omega
  have hsum:(a:Int)+(k:Int)=((a+k:Nat):Int):=by omega
  have hwr:IntKind.i64.wrap ((a:Int)+(k:Int))=((a+k:Nat):Int):=by rw[hsum];exact IntWalk.i64_in _ (by omega)
  have hwm:IntKind.i64.wrap ((a+k:Nat):Int)=((a+k:Nat):Int):=IntWalk.i64_in _ (by omega)
  have hge:n<=a+k:=by omega
  clear hp hsum
  generalize a+k=m at*
  unfold jm At
  go_enter func126,ntmps126
  go_wp2_with fail
  go_quiet (fail)
  have hbW:aE u ((u.alloc (.cells #[ae 0,ae 0,ae 0,ai,.bool false,.bool false] 139)).drewN nq):=gU (kr aA _) nq
  have hnew:((u.alloc (.cells #[ae 0,ae 0,ae 0,ai,.bool false,.bool false] 139)).drewN nq).heap[u.heap.size]?=some (.cells #[ae 0,ae 0,ae 0,ai,.bool false,.bool false] 139 (0,0)):=heap_alloc_new u _
  generalize (u.alloc (.cells #[ae 0,ae 0,ae 0,ai,.bool false,.bool false] 139)).drewN nq=W at hbW hnew⊢
  obtain⟨n0,n1,n2,n3,n4,n5,nf⟩:=iT hnew
  have HBW:=ad hbW
  clear hbW hnew
  go_wp2_with fail
  have hul:u.heap.size<W.heap.size:=World.block_lt_of_cell? W _ n0
  exact bodyPost_ret (v:=.agg #[ae 0,ae 0,ae 0,ai,.bool false,.bool false]) (by simp[results,results126,go_sem,n0,n1,n2,n3,n4,n5]) rfl
   ⟨rfl,(((((HBW.setCell (p:=(ak u.heap.size 0)) aC _).setCell (p:=(ak u.heap.size 1)) aC _).setCell (p:=(ak u.heap.size 2)) aC _).setCell (p:=(ak u.heap.size 3)) aC _).setCell (p:=(ak u.heap.size 4)) aC _).setCell (p:=(ak u.heap.size 5)) aC _⟩
theorem AT (u:World) (rb:Nat) (v:jr) (ts:List dq) (s:cI) (B:Nat) (h:bU u rb v ts s B) (k:Nat) (hk:k<=2) (c:UInt8):
 Calls prog 221 #[ah rb,ae k,.string ⟨#[c]⟩] u fun e u'=>e=.returned (.bool (kK ts (s.at'+k) c))/\aE u u':=by
 have HA:=ad h
 have hlt:=h.blk.lt
 clear h
 unfold kK
 go_enter func221,ntmps221
 go_wp2_with fail
 refine(iE _ rb v ts s B HA.out k hk).mono ?_
 rintro e w1 ⟨rfl,hb⟩
 simp only[jm]
 go_wp2_with fail
 all_goals rename_i hk6
 ·refine bodyPost_ret (v:=.bool ((bg ts (s.at'+k)).s==[c])) (by simp[results,results221,go_sem]) rfl ⟨?_,hb.alloc hb.size _⟩
  rw[decide_eq_true hk6,Bool.true_and]
  by_cases h2:(bg ts (s.at'+k)).s=[c]
  ·rw[decide_eq_true h2,beq_iff_eq.2 h2]
  ·rw[decide_eq_false h2,beq_eq_false_iff_ne.2 h2]
 ·exact bodyPost_ret (v:=.bool false) (by simp[results,results221,go_sem]) rfl ⟨by rw[decide_eq_false hk6];rfl,hb.alloc hb.size _⟩
theorem jV (u:World) (rb:Nat) (v:jr) (ts:List dq) (s:cI) (B:Nat) (h:bU u rb v ts s B) (c:UInt8):
 Calls prog 226 #[ah rb,.string ⟨#[c]⟩] u fun e u'=>e=.returned (.bool (kK ts s.at' c))/\bU u' rb v ts (if kK ts s.at' c then s.go 1 else s) B/\Fr (·=rb) u u':=by
 have HA:=ad h
 have hlt:=h.blk.lt
 clear h
 obtain⟨s',hs'⟩:∃s',s'=(if kK ts s.at' c then s.go 1 else s):=⟨_,rfl⟩
 rw[<-hs']
 go_enter func226,ntmps226
 go_wp2_with fail
 refine(AT _ rb v ts s B HA.out 0 (by omega) c).mono ?_
 rintro e w1 ⟨rfl,hb⟩
 have HA1:=ad (HA.later hb)
 have hP:s.at'+0=s.at':=rfl
 rw[hP]
 have HB:=ad hb
 clear hb hP
 cases hq:kK ts s.at' c with
 |false=>
  rw[hq,if_neg (by simp)]at hs'
  subst hs'
  go_wp2_with fail
  exact bodyPost_ret (v:=.bool false) (by simp[results,results226,go_sem]) rfl ⟨by rw[hq],HA1.out,.of_below _ HB.out⟩
 |true=>
  rw[hq,if_pos rfl]at hs'
  subst hs'
  have hl:=AD hq
  have c1:w1.cell? (ak rb 1)=some (ae (s.at':Int)):=HA1.blk.cell (i:=1) rfl
  have cf:=HA1.blk.free
  have hf:=HA1.few
  have hwr:IntKind.i64.wrap ((s.at':Int)+1)=(s.at':Int)+1:=IntWalk.i64_in _ (by omega)
  go_wp2_with fail
  exact bodyPost_ret (v:=.bool true) (by simp[results,results226,go_sem]) rfl ⟨by rw[hq],HA1.put (s':=s.go 1) 1 _ (by simp[bT,cI.go]) rfl rfl (by show s.at'+1<=_;omega),(Fr.of_below (·=rb) HB.out).setCell (p:=(ak rb 1)) (.inl rfl) _⟩
theorem ri (u:World) (p:Value):
 Calls prog 121 #[p] u fun e u'=>e=.panicked [{v:=.iface 309 (.agg #[]),recovered:=false}]/\aE u u':=by
 go_enter func121,ntmps121
 go_wp2_with fail
 exact⟨rfl,rfl,aA⟩
theorem jH (u:World) (rb:Nat) (v:jr) (ts:List dq) (s:cI) (B:Nat) (h:bU u rb v ts s B) (c:UInt8):
 Calls prog 222 #[ah rb,.string ⟨#[c]⟩] u fun e u'=>Fr (·=rb) u u'∧
  (if kK ts s.at' c then e=am/\bU u' rb v ts (s.go 1) B else e=.panicked [{v:=.iface 309 (.agg #[]),recovered:=false}]/\bU u' rb v ts s B):=by
 have HA:=ad h
 clear h
 cases hq:kK ts s.at' c with
 |true=>
  simp only[if_true]
  go_enter func222,ntmps222
  go_wp2_with fail
  refine(jV _ rb v ts s B HA.out c).mono ?_
  rintro e w1 ⟨rfl,h1,hF⟩
  rw[hq,if_pos rfl]at h1
  rw[hq]
  have H1:=ad h1
  have HF:=ad hF
  clear h1 hF
  go_wp2_with fail
  exact bodyPost_end (v:=.tuple #[]) (by simp[results,results222,go_sem]) rfl ⟨HF.out,rfl,H1.out⟩
 |false=>
  simp only[Bool.false_eq_true,if_false]
  go_enter func222,ntmps222
  go_wp2_with fail
  refine(jV _ rb v ts s B HA.out c).mono ?_
  rintro e w1 ⟨rfl,h1,hF⟩
  rw[hq,if_neg (by simp)]at h1
  rw[hq]
  have H1:=ad h1
  have HF:=ad hF
  clear h1 hF
  go_wp2_with fail
  refine(ri _ _).mono ?_
  rintro e w2 ⟨rfl,hb⟩
  exact⟨rfl,HF.trans (.of_below _ hb),rfl,H1.later hb⟩
theorem sx (u:World) (rb:Nat) (v:jr) (ts:List dq) (s:cI) (B:Nat) (h:bU u rb v ts s B) (m:Int):
 Calls prog 130 #[ah rb,ae m] u fun e u'=>e=am/\bU u' rb v ts (s.want m) B/\u'=(u.setCell (ak rb 5) (ae m)).setCell (ak rb 6) (.bool false):=by
 have HA:=ad h
 have c5:u.cell? (ak rb 5)=some (ae s.most):=h.blk.cell (i:=5) rfl
 have c6:u.cell? (ak rb 6)=some (.bool s.hv):=h.blk.cell (i:=6) rfl
 have cf:=h.blk.free
 clear h
 go_enter func130,ntmps130
 go_wp2_with fail
 exact bodyPost_end (v:=.tuple #[]) (by simp[results,results130,go_sem]) rfl
  ⟨rfl,(HA.put (s':= {s with most:=m}) 5 _ (by simp[bT]) rfl rfl HA.in').put (s':=s.want m) 6 _ (by simp[bT,cI.want]) rfl rfl HA.in',rfl⟩
theorem mv (u:World) (rb:Nat) (v:jr) (ts:List dq) (s:cI) (B:Nat) (h:bU u rb v ts s B) (x:TV) (t:Tm) (pri:Int):
 Calls prog 122 #[ah rb,.agg #[ae x.k,ae x.n,af x.s,.slice x.A x.len x.cap],ae pri] u fun e u'=>e=am/\bU u' rb {v with x:=x} ts (s.done t pri) B/\Fr (·=rb) u u':=by
 have HA:=ad h
 have c7:u.cell? (ak rb 7)=some (ae v.x.k):=h.blk.cell (i:=7) rfl
 have c8:u.cell? (ak rb 8)=some (ae v.x.n):=h.blk.cell (i:=8) rfl
 have c9:u.cell? (ak rb 9)=some (af v.x.s):=h.blk.cell (i:=9) rfl
 have c10:u.cell? (ak rb 10)=some (.slice v.x.A v.x.len v.x.cap):=h.blk.cell (i:=10) rfl
 have c11:u.cell? (ak rb 11)=some (ae s.pri):=h.blk.cell (i:=11) rfl
 have c6:u.cell? (ak rb 6)=some (.bool s.hv):=h.blk.cell (i:=6) rfl
 have cf:=h.blk.free
 have hlt:=h.blk.lt
 clear h
 go_enter func122,ntmps122
 go_wp2_with fail
 have p1:=HA.put (v':= {v with x:= {v.x with k:=x.k} }) (s':=s) 7 (ae x.k) (by simp[bT]) rfl rfl HA.in'
 have p2:=p1.put (v':= {v with x:= {v.x with k:=x.k,n:=x.n} }) (s':=s) 8 (ae x.n) (by simp[bT]) rfl rfl HA.in'
 have p3:=p2.put (v':= {v with x:= {v.x with k:=x.k,n:=x.n,s:=x.s} }) (s':=s) 9 (af x.s) (by simp[bT]) rfl rfl HA.in'
 have p4:=p3.put (v':= {v with x:=x}) (s':=s) 10 (.slice x.A x.len x.cap) (by simp[bT]) rfl rfl HA.in'
 have p5:=p4.put (v':= {v with x:=x}) (s':= {s with pri:=pri}) 11 (ae pri) (by simp[bT]) rfl rfl HA.in'
 have p6:=p5.put (v':= {v with x:=x}) (s':=s.done t pri) 6 (.bool true) (by simp[bT,cI.done]) rfl rfl HA.in'
 have hF:Fr (·=rb) u ((((((u.setCell (ak rb 7) (ae x.k)).setCell (ak rb 8) (ae x.n)).setCell (ak rb 9) (af x.s)).setCell (ak rb 10) (.slice x.A x.len x.cap)).setCell (ak rb 11) (ae pri)).setCell (ak rb 6) (.bool true)):=
  ((((((Fr.refl (·=rb) u).setCell (p:=(ak rb 7)) (.inl rfl) _).setCell (p:=(ak rb 8)) (.inl rfl) _).setCell (p:=(ak rb 9)) (.inl rfl) _).setCell (p:=(ak rb 10)) (.inl rfl) _).setCell (p:=(ak rb 11)) (.inl rfl) _).setCell (p:=(ak rb 6)) (.inl rfl) _
 exact bodyPost_end (v:=.tuple #[]) (by simp[results,results122,go_sem]) rfl
  ⟨rfl,p6.later aB,hF.alloc _⟩
structure bZ where
 k:Int
 n:Int
 s:List UInt8
 a:Nat
def a8 (g:List bZ->Tm×Nat):Nat->List bZ->List Tm×Nat
 |0,_=>([],0)
 |i+1,l=>((g l).1::(a8 g i (l.drop (g l).2)).1,(g l).2+(a8 g i (l.drop (g l).2)).2)
def oC:Nat->List bZ->Tm×Nat
 |0,_=>(fG [97],0)
 |_+1,[]=>(fG [97],0)
 |f+1,p::r=>(.mk p.k p.n p.s (a8 (oC f) (p.a%8) r).1,1+(a8 (oC f) (p.a%8) r).2)
def gE (l:List bZ):Tm×Nat:=oC l.length l
mutual
def fF:Tm->Tm
 | .mk k n s l=>
  if 20<s.length then fG [97]
  else if k=1 then jk (max 0 n)
  else if k=2 then iv n
  else if k=3 then fG s
  else if k=4 then(if l.length=0 then fG [97]else jq s (cF l))
  else fG [97]
def cF:List Tm->List Tm
 |[]=>[]
 |t::r=>fF t::cF r
end
def lH (l:List bZ):Tm:=fF (gE l).1
theorem gI {g:List bZ->Tm×Nat} (hg:∀l,(g l).2<=l.length):∀(i:Nat) (l:List bZ),(a8 g i l).2<=l.length/\(a8 g i l).1.length=i
 |0,_=>⟨Nat.zero_le _,rfl⟩
 |i+1,l=>by
  have h1:=hg l
  obtain⟨h2,h3⟩:=gI hg i (l.drop (g l).2)
  rw[List.length_drop]at h2
  unfold a8
  refine⟨by simp only;omega,by simp only[List.length_cons,h3]⟩
theorem qc:∀(f:Nat) (l:List bZ),(oC f l).2<=l.length
 |0,_=>Nat.zero_le _
 |_+1,[]=>Nat.zero_le _
 |f+1,p::r=>by
  have:=(gI (qc f) (p.a%8) r).1
  unfold oC
  simp only[List.length_cons]
  omega
theorem gY {g h:List bZ->Tm×Nat} (n:Nat) (hgh:∀l,l.length<=n->g l=h l):∀(i:Nat) (l:List bZ),l.length<=n->a8 g i l=a8 h i l
 |0,_,_=>rfl
 |i+1,l,hl=>by
  unfold a8
  rw[hgh l hl,gY n hgh i _ (by rw[List.length_drop];omega)]
theorem rK:∀(n f g:Nat) (l:List bZ),l.length<=n->l.length<=f->l.length<=g->oC f l=oC g l
 |n,f,g,[],_,_,_=>by cases f<;>cases g<;>rfl
 |0,_,_,p::r,h,_,_=>by simp at h
 |n+1,f,g,p::r,h,hf,hg=>by
  rw[List.length_cons]at h hf hg
  obtain⟨f,rfl⟩:∃k,f=k+1:=⟨f-1,by omega⟩
  obtain⟨g,rfl⟩:∃k,g=k+1:=⟨g-1,by omega⟩
  unfold oC
  rw[gY (g:=oC f) (h:=oC g) r.length (fun l hl=>rK n f g l (by omega) (by omega) (by omega)) (p.a%8) r aC]
theorem so (p:bZ) (r:List bZ):gE (p::r)=(.mk p.k p.n p.s (a8 gE (p.a%8) r).1,1+(a8 gE (p.a%8) r).2):=by
 unfold gE
 rw[List.length_cons,oC]
 rw[gY (g:=oC r.length) (h:=fun l=>oC l.length l) r.length (fun l hl=>rK r.length r.length l.length l hl hl aC) (p.a%8) r aC]
theorem pG (l:List bZ):(gE l).2<=l.length:=qc _ l
theorem iW (g:List bZ->Tm×Nat):∀(i:Nat) (l:List bZ),a8 g (i+1) l=((a8 g i l).1++[(g (l.drop (a8 g i l).2)).1],(a8 g i l).2+(g (l.drop (a8 g i l).2)).2)
 |0,l=>by simp[a8]
 |i+1,l=>by
  have ih:=iW g i (l.drop (g l).2)
  rw[a8,ih,a8]
  simp only[List.drop_drop,List.cons_append,Prod.mk.injEq]
  refine⟨trivial,by omega⟩
mutual
theorem ow:∀t:Tm,(fF t).size<=t.size
 | .mk k n s l=>by
  have h1:=nL l
  have h2:∀s:List UInt8,(fG s).size=1:=fun _=>rfl
  have h3:(Tm.mk k n s l).size=1+Tm.sizes l:=rfl
  rw[fF,h3]
  split
  ·rw[h2];omega
  ·split
   ·show 1<=_;omega
   ·split
    ·show 1<=_;omega
    ·split
     ·rw[h2];omega
     ·split
      ·split
       ·rw[h2];omega
       ·show 1+Tm.sizes (cF l)<=_
        omega
      ·rw[h2];omega
theorem nL:∀l:List Tm,Tm.sizes (cF l)<=Tm.sizes l
 |[]=>aC
 |t::r=>by
  have h1:=ow t
  have h2:=nL r
  rw[cF,Tm.sizes,Tm.sizes]
  omega
end
theorem lf:∀l:List Tm,(cF l).length=l.length
 |[]=>rfl
 |t::r=>by rw[cF,List.length_cons,List.length_cons,lf r]
mutual
def Tm.thin:Tm->Bool| .mk _ _ _ l=>decide (l.length<=255)&&Tm.thins l
def Tm.thins:List Tm->Bool|[]=>true|t::r=>t.thin&&Tm.thins r
end
mutual
theorem rZ:∀t:Tm,t.thin=true->(fF t).may=true
 | .mk k n s l,h=>by
  rw[Tm.thin,Bool.and_eq_true,decide_eq_true_eq]at h
  have h1:=oY l h.2
  have h2:=lf l
  have ha:(fG [97]).may=true:=by decide
  rw[fF]
  split
  ·exact ha
  ·rename_i hs
   split
   ·show(Tm.mk 1 (max 0 n) [] []).may=true
    rw[Tm.may]
    unfold eR
    simp[Tm.mays]
    omega
   ·split
    ·show(Tm.mk 2 n [] []).may=true
     rw[Tm.may]
     unfold eR
     simp[Tm.mays]
    ·split
     ·show(Tm.mk 3 0 s []).may=true
      rw[Tm.may]
      unfold eR
      simp[Tm.mays]
      omega
     ·split
      ·split
       ·exact ha
       ·rename_i hl
        show(Tm.mk 4 0 s (cF l)).may=true
        rw[Tm.may,h1]
        unfold eR
        simp
        omega
      ·exact ha
theorem oY:∀l:List Tm,Tm.thins l=true->Tm.mays (cF l)=true
 |[],_=>rfl
 |t::r,h=>by
  rw[Tm.thins,Bool.and_eq_true]at h
  rw[cF,Tm.mays,rZ t h.1,oY r h.2]
  rfl
end
theorem lJ {g:List bZ->Tm×Nat} (hg:∀l,(g l).1.thin=true/\(g l).1.size<=1+7*(g l).2):∀(i:Nat) (l:List bZ),Tm.thins (a8 g i l).1=true/\Tm.sizes (a8 g i l).1<=i+7*(a8 g i l).2
 |0,_=>⟨rfl,Nat.zero_le _⟩
 |i+1,l=>by
  obtain⟨h1,h2⟩:=hg l
  obtain⟨h3,h4⟩:=lJ hg i (l.drop (g l).2)
  unfold a8
  refine⟨?_,?_⟩
  ·simp only[Tm.thins,h1,h3,Bool.and_self]
  ·simp only[Tm.sizes]
   omega
theorem mV:∀(f:Nat) (l:List bZ),(oC f l).1.thin=true/\(oC f l).1.size<=1+7*(oC f l).2
 |0,_=>⟨rfl,aC⟩
 |_+1,[]=>⟨rfl,aC⟩
 |f+1,p::r=>by
  obtain⟨h1,h2⟩:=lJ (mV f) (p.a%8) r
  have h3:=(gI (qc f) (p.a%8) r).2
  have h4:p.a%8<8:=Nat.mod_lt _ (by decide)
  unfold oC
  refine⟨?_,?_⟩
  ·simp only[Tm.thin,h1,Bool.and_true,decide_eq_true_eq]
   omega
  ·simp only[Tm.size]
   omega
theorem CX (l:List bZ):(lH l).may=true/\(lH l).size<=1+7*l.length:=by
 obtain⟨h1,h2⟩:=mV l.length l
 have h3:=qc l.length l
 refine⟨rZ _ h1,Nat.le_trans (ow _) ?_⟩
 show(oC l.length l).1.size<=_
 omega
end
end Go.Proofs.YtigeofkllldilaaGreatDoor
namespace Go.Proofs
open Go.Shelf
def Tryz.lays99_ren:Go.Shelf.Ren:=⟨fun|99=>119|206=>219|n=>n,fun|9=>9|4=>4|3=>3|n=>n,fun|n=>n⟩
theorem Tryz.lays99:Go.Proofs.Lays.n99 prog Tryz.lays99_ren:= {
 mixed:=by kernel_rfl
 f99:=func119.trans (congrArg some (by kernel_rfl))
 f206:=func219.trans (congrArg some (by kernel_rfl))
 t3:=underlying3
 a3:=Tryz.isAgg3
 z3:=Tryz.sizeOf3
 v3:=Tryz.zeroValue3
 t4:=underlying4
 a4:=Tryz.isAgg4
 z4:=Tryz.sizeOf4
 v4:=Tryz.zeroValue4
 t9:=underlying9
 a9:=Tryz.isAgg9
 z9:=Tryz.sizeOf9
 v9:=Tryz.zeroValue9}
open Go.RowKit Go.Lib in
theorem Tryz.strings_HasPrefix (s p:ByteArray) (w:World):
 Calls prog 119 #[.string s,.string p] w fun e w'=>e=.returned (.bool (Lib.hasPrefix s.data.toList p.data.toList))/\w'=w:=Any.strings_HasPrefix Tryz.lays99 s p w
end Go.Proofs
namespace Go.Proofs.YtigeofkllldilaaGreatDoor
section
open Go.RowKit Go.Maps
def BO (x:TV) (nv:Value) (line next:Int):Value:=.agg #[ae x.k,ae x.n,af x.s,.slice x.A x.len x.cap,nv,ae line,ae next]
theorem tI (p q r t:Value) (w:World):
 CallsD prog 60 #[p,q,r,t] .returning w fun e u' w'=>e=am/\u'=.returning/\w'=w:=by
 refine callsD_of_wpS func60 rfl fun c₀ cs hu=>?_
 apply wpS_seq
 apply wpS_region
 simp[wpOpsS,go_sem,recoverD,hu,ntmps60,Exit.thenS]
 refine wpS_of_wp ?_
 go_wp2
 cases c₀
 simp_all [bodyPostS,results,results60]
theorem Cv {S:Nat->Prop} {w W:World} (h:Fr S w W) {b:Nat} (hb:S b) (a0 a1 a2 a3 a4 a5 a6:Value):
 Fr S w (((((((W.setCell (ak b 0) a0).setCell (ak b 1) a1).setCell (ak b 2) a2).setCell (ak b 3) a3).setCell (ak b 4) a4).setCell (ak b 5) a5).setCell (ak b 6) a6):=
 ((((((h.setCell (p:=(ak b 0)) (.inl hb) _).setCell (p:=(ak b 1)) (.inl hb) _).setCell (p:=(ak b 2)) (.inl hb) _).setCell (p:=(ak b 3)) (.inl hb) _).setCell (p:=(ak b 4)) (.inl hb) _).setCell (p:=(ak b 5)) (.inl hb) _).setCell (p:=(ak b 6)) (.inl hb) _
end
end Go.Proofs.YtigeofkllldilaaGreatDoor
