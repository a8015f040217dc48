import Derived.Test.YtigeofkllldilaaGreatDoorJM04
import Derived.Test.YtigeofkllldilaaGreatDoorJM14
set_option maxHeartbeats 32000000
set_option maxRecDepth 100000
set_option linter.unusedSectionVars false
open Go.Proofs.Tryz
namespace Go.Proofs.YtigeofkllldilaaGreatDoor
section
open Go.RowKit Go.Maps
theorem AK {z:Array Value} (hz:0<z.size) (h1:∀v∈z,v.oneCell'=true) (n:Nat):∀v∈(Builtin.zeroCells z n).toList,v.oneCell'=true:=fun v hv=>by
 simp only[Builtin.zeroCells,Array.toList_map,List.mem_map]at hv
 obtain⟨i,-,rfl⟩:=hv
 have hi:i%z.size<z.size:=Nat.mod_lt _ hz
 rw[getElem!_pos z _ hi]
 exact h1 _ (Array.getElem_mem hi)
theorem rg (w:World) (g o n c:Nat) (hc:∀j,j<n*6->(w.cell? (ak g (o+j))).isSome=true) (hf:∀j,w.frozen? ⟨g,j,none⟩=false):
 ∃vs,(Builtin.clear_ #[186] 0 #[.slice (some (ak g o)) n c]).run prog w=.ok (.tuple #[]) (w.setCells g o vs):=by
 cases n with
 |zero=>exact⟨[],by simp[Builtin.clear_];rfl⟩
 |succ m=>
  obtain⟨z,hz,hs,h1⟩:∃z:Value,(∀w,(zeroValue 378).run prog w=.ok z w)/\z.cells.size=6/\∀v∈z.cells,v.oneCell'=true:=⟨.agg #[ae 0,ae 0,ai,aj,ae 0,ae 0],fun w=>by kernel_rfl,rfl,by decide⟩
  have hln:(Builtin.zeroCells z.cells (m+1)).toList.length=(m+1)*6:=by simp[Builtin.zeroCells,hs]
  have hst:=run_storeCells_cells (P:=prog) g o (Builtin.zeroCells z.cells (m+1)).toList 0 w (by rw[hln];simpa using hc) (by intro j _;exact hf _) (AK (by omega) h1 _)
  rw[Nat.add_zero]at hst
  refine⟨(Builtin.zeroCells z.cells (m+1)).toList,?_⟩
  simp[Builtin.clear_,run_underlying underlying186,hz,hst]
def Da (db ob:Nat) (spent:Int) (over:List UInt8):Array Value:=#[ah db,ah ob,.pointer none,ae 300,ae 40000,ae 2000,ae spent,af over]
def dF (u:World) (mb db ob:Nat) (spent:Int) (over:List UInt8):Prop:=u.heap[mb]?=some (.cells (Da db ob spent over) 105 (0,0))
theorem dF.lt {u:World} {mb db ob:Nat} {spent:Int} {over:List UInt8} (h:dF u mb db ob spent over):mb<u.heap.size:=(ap h).1
theorem dF.later {u v:World} {mb db ob:Nat} {spent:Int} {over:List UInt8} (h:dF u mb db ob spent over) (hb:aE u v):dF v mb db ob spent over:=(hb.block _ h.lt).trans h
theorem dF.cells {u:World} {mb db ob:Nat} {spent:Int} {over:List UInt8} (h:dF u mb db ob spent over):
 (u.cell? (ak mb 0)=some (ah db)/\u.cell? (ak mb 1)=some (ah ob)/\u.cell? (ak mb 2)=some (.pointer none)/\u.cell? (ak mb 3)=some (ae 300)/\u.cell? (ak mb 4)=some (ae 40000)/\u.cell? (ak mb 5)=some (ae 2000)/\u.cell? (ak mb 6)=some (ae spent)/\u.cell? (ak mb 7)=some (af over))/\∀o,u.frozen? ⟨mb,o,none⟩=false:=by
 have hc:∀i,u.cell? (ak mb i)=(Da db ob spent over)[i]?:=fun i=>cell_of_row _ _ i _ _ _ h
 exact⟨⟨hc 0,hc 1,hc 2,hc 3,hc 4,hc 5,hc 6,hc 7⟩,fun o=>by simp[World.frozen?,show u.heap[mb]?=_ from h]⟩
theorem we (w:World):Calls prog 32 #[.agg #[ae 300,ae 40000,ae 2000]] w fun e w'=>e=.returned (.bool true)/\aE w w':=by
 go_enter func32,ntmps32
 go_wp2_with fail
 go_ret
 exact⟨rfl,aB⟩
theorem zt (w:World) (db ob:Nat):Calls prog 19 #[ah db,ah ob,.pointer none,.agg #[ae 300,ae 40000,ae 2000]] w fun e w'=>
 ∃mb,e=.returned (.tuple #[ah mb,ae 0])/\w.heap.size<=mb/\dF w' mb db ob 0 []/\aE w w':=by
 obtain⟨W,hW⟩:∃W,W=w.alloc (.cells #[ae 300,ae 40000,ae 2000] 60):=⟨_,rfl⟩
 have hb:aE w W:=by rw[hW];exact aB
 have hz:W.heap[w.heap.size]?=some (.cells #[ae 300,ae 40000,ae 2000] 60 (0,0)):=by rw[hW];exact az
 have HB:=ad (aD hb hz)
 have hc:∀i,W.cell? (ak w.heap.size i)=(#[ae 300,ae 40000,ae 2000]:Array Value)[i]?:=fun i=>cell_of_row _ _ i _ _ _ hz
 have c0:=(hc 0).trans rfl
 have c1:=(hc 1).trans rfl
 have c2:=(hc 2).trans rfl
 clear hb hz hc
 go_enter func19,ntmps19
 go_upto_region 1 with fail
 rw[<-hW]
 clear hW
 go_wp2_with fail
 refine(we W).mono ?_
 rintro e w1 ⟨rfl,hb1⟩
 have hz1:=(hb1.block _ (ap HB.2).1).trans HB.2
 have hc:∀i,w1.cell? (ak w.heap.size i)=(#[ae 300,ae 40000,ae 2000]:Array Value)[i]?:=fun i=>cell_of_row _ _ i _ _ _ hz1
 have d0:=(hc 0).trans rfl
 have d1:=(hc 1).trans rfl
 have d2:=(hc 2).trans rfl
 have HB1:=ad (HB.1.trans (hb1.mono HB.1.size))
 clear hz1 hc hb1 c0 c1 c2
 go_wp2_with fail
 go_ret2
 exact⟨_,rfl,HB1.size,az,HB1.alloc HB1.size _⟩
theorem yJ (w:World) (mb db ob:Nat) (spent:Int) (over:List UInt8) (h:dF w mb db ob spent over):Calls prog 23 #[ah mb] w fun e w'=>e=.returned (.bool (over !=[]))/\w'=w:=by
 obtain⟨⟨c0,c1,c2,c3,c4,c5,c6,c7⟩,cf⟩:=h.cells
 clear c0 c1 c2 c3 c4 c5 c6 h
 cases over with
 |nil=>
  go_enter func23,ntmps23
  go_wp2_with fail
  go_ret
  exact⟨rfl,rfl⟩
 |cons a l=>
  go_enter func23,ntmps23
  go_wp2_with fail
  go_ret
  exact⟨rfl,rfl⟩
def wN (n:Nat):Value:=.func (Fn.func n) #[] #[]
variable[Base]
structure RC where
 mb:Nat
 sb:Nat
 vb:Nat
 bb:Nat
 nm:Value
 most:Int
 ans:Int
 ev:Value
 fr:Value
 ch:Value
 b0:Value
 b1:Value
 b2:Value
 b3:Value
 loose:Int
def fm:List Value:=[wN 78,wN 79,wN 80,wN 81,wN 82,wN 83,wN 84,wN 85,wN 86,wN 87,wN 88,wN 89]
def FQ (r:RC):List Value:=[ah r.mb,ah r.sb,r.nm,.map (some r.vb),ae r.most,ae r.ans,r.ev,r.fr,r.ch,r.b0,r.b1,r.b2,r.b3,ae r.loose]++(fm++[.map (some r.bb)])
def Dx (r:RC):Array Value:=(FQ r).toArray
def bS (u:World) (rb:Nat) (r:RC):Prop:=u.heap[rb]?=some (.cells (Dx r) 124 (0,0))
def kP (x:Int×List UInt8):List Value:=[ae x.1,af x.2]
omit[Base]in
theorem re (x:Int×List UInt8):(kP x).length=2:=rfl
omit[Base]in
theorem BE (x:Int×List UInt8):∀u∈kP x,u.oneCell'=true:=by
 intro u hu
 simp[kP]at hu
 rcases hu with rfl|rfl<;>rfl
omit[Base]in
theorem td:∃i z,prog.info? 31=some i/\i.zero=some z/\i.size=2/\i.bytes=24/\z.cells.size=2:=by
 refine⟨_,_,rfl,rfl,?_,?_,?_⟩<;>kernel_rfl
abbrev Bk (u:World) (rb:Nat) (v:Value) (l:List (Int×List UInt8)):Prop:=aS u (rb+1) 31 2 kP v l
section
variable {u u':World} {rb:Nat} {r:RC}
omit[Base]in
theorem bS.lt (h:bS u rb r):rb<u.heap.size:=(ap h).1
omit[Base]in
theorem bS.later (h:bS u rb r) (hb:aE u u'):bS u' rb r:=(hb.block _ h.lt).trans h
omit[Base]in
theorem bS.ty (h:bS u rb r):aR u 124 rb:=⟨_,h⟩
omit[Base]in
theorem bS.get (h:bS u rb r) (i:Nat):u.cell? (ak rb i)=(Dx r)[i]?:=cell_of_row _ _ i _ _ _ h
omit[Base]in
theorem bS.fz (h:bS u rb r) (o:Nat):u.frozen? ⟨rb,o,none⟩=false:=by simp[World.frozen?,show u.heap[rb]?=_ from h]
omit[Base]in
theorem bS.set (h:bS u rb r) (i:Nat) (v:Value) (r':RC) (he:(Dx r).setIfInBounds i v=Dx r'):bS (u.setCell (ak rb i) v) rb r':=by
 have:=aK h v (i:=i)
 rw[he]at this
 exact this
end
theorem gJ (u:World) (rb:Nat) (r:RC) (l:List (Int×List UInt8)) (k:Int) (s:List UInt8) (h:bS u rb r) (hr:Bk u rb r.ev l) (hl:l.length<=100000) (hB:Base.b<=rb):
 Calls prog 190 #[ah rb,ae k,af s] u fun e u'=>e=am/\∃v,bS u' rb {r with ev:=v} /\Bk u' rb v (l++[(k,s)])/\TF [124,31] u u':=by
 refine aa fun P hP=>?_
 have HP:=ad hP
 obtain⟨i0,z0,hi0,hz0,hz1,hz2,hz3⟩:=td
 obtain⟨A,c,he⟩:=hr.shape
 have HR:=ad (aD h (he▸hr))
 have e6:u.cell? (ak rb 6)=some (.slice A l.length c):=(h.get 6).trans (by show some r.ev=_;rw[he])
 have hf:=h.fz
 have hlt:=h.lt
 have HL:=ad hl
 clear hP h hr he hl
 go_enter func190,ntmps190
 go_wp2_with (at_builtin;refine cK rfl _ _ 32 rfl _ (rb+1) 31 i0 z0 2 24 kP underlying32 hi0 hz0 hz1 hz2 hz3 (by decide) re BE _ l (k,s) rfl (HR.2.alloc _) _ 1 rfl (fun j w hw=>by rw[bV _ _ _ j w (by rw[<-Array.getElem?_toList];exact hw)]) (by have:=HL.out;unfold maxLen;omega) (by have:=HL.out;omega) (by simp;omega) ?_)
 intro v' w2 hr hg
 obtain⟨A3,c3,rfl⟩:=hr.shape
 have hlen:(l++[(k,s)]).length=l.length+1:=by simp
 rw[hlen]at hr⊢
 clear hlen
 have hb2:bS w2 rb r:=(hg.block rb (by simp;omega) (fun e=>by have:=(HR.2.lt _ e.symm).1;omega)).trans ((aw _ _ _ hlt).trans HR.1)
 have f6:w2.cell? (ak rb 6)=some (.slice A l.length c):=(hb2.get 6).trans ((HR.1.get 6).symm.trans e6)
 have ff:=hb2.fz
 have hl2:=hb2.lt
 have HW:=ad (hb2.set 6 (.slice A3 (l.length+1) c3) {r with ev:=.slice A3 (l.length+1) c3} rfl)
 have HRR:=ad (hr.keep fun j hj=>Below.heap_setCell w2 ⟨rb,6,none⟩ (.slice A3 (l.length+1) c3) j (show j≠rb by have:=(hr.lt j hj).1;omega))
 have HTF:Hid (TF [124,31] u (w2.setCell (ak rb 6) (.slice A3 (l.length+1) c3))):=ad ((((TF.refl _ u).alloc _).grown hg fun g e=>.inl ⟨by have:=(HR.2.lt g e).1;omega,31,by decide,((HR.2.alloc _).ty e)⟩).set hb2.ty (by decide) hB _)
 clear hr hg hb2 e6 hf
 go_wp2_with fail
 exact bodyPost_end (v:=.tuple #[]) (by simp[results,results190,go_sem]) rfl (by rw[HP.out];exact⟨rfl,_,HW.out,HRR.out,HTF.out⟩)
end
section
open Go.RowKit Go.Maps
variable[Base]
structure aT (u:World) (rb:Nat) (r:RC) (l:List (Int×List UInt8)) (db ob:Nat) (spent:Int) (over:List UInt8):Prop where
 run:bS u rb r
 ev:Bk u rb r.ev l
 mach:dF u r.mb db ob spent over
 few:l.length<=100000/\Base.b<=rb/\Base.b<=r.mb
abbrev rI:List TypeId:=[124,31,105]
theorem aT.ne {u:World} {rb:Nat} {r:RC} {l:List (Int×List UInt8)} {db ob:Nat} {spent:Int} {over:List UInt8} (h:aT u rb r l db ob spent over):rb≠r.mb:=h.run.ty.ne (t':=105) ⟨_,h.mach⟩ (by decide)
theorem aT.keep {u u':World} {rb:Nat} {r:RC} {l:List (Int×List UInt8)} {db ob:Nat} {spent:Int} {over:List UInt8} {tys:List TypeId} (h:aT u rb r l db ob spent over) (hf:TF tys u u') (ht:∀t∈rI,t∉tys):aT u' rb r l db ob spent over:=
 ⟨(hf.block h.run.ty (ht _ (by decide))).trans h.run,hf.row h.ev (ht _ (by decide)),(hf.block ⟨_,h.mach⟩ (ht _ (by decide))).trans h.mach,h.few⟩
theorem aT.later {u u':World} {rb:Nat} {r:RC} {l:List (Int×List UInt8)} {db ob:Nat} {spent:Int} {over:List UInt8} (h:aT u rb r l db ob spent over) (hb:aE u u'):aT u' rb r l db ob spent over:=h.keep (TF.of_below [] hb) (fun _ _ h=>by cases h)
end
section
open Go.RowKit Go.Maps
def ea (u:World) (fb:Nat) (at' h:Int):Prop:=u.heap[fb]?=some (.cells #[ae 0,ae at',ae h,.pointer none,.pointer none,.pointer none] 243 (0,0))
theorem ea.later {u v:World} {fb:Nat} {a h:Int} (hf:ea u fb a h) (hb:aE u v):ea v fb a h:=(hb.block _ (ap hf).1).trans hf
theorem AO (w:World) (a h:Int):Calls prog 169 #[.agg #[ae 0,ae a,ae h,.pointer none,.pointer none,.pointer none],.pointer none] w fun e w'=>
 e=.returned (ah w.heap.size)/\ea w' w.heap.size a h/\aE w w':=by
 go_enter func169,ntmps169
 go_wp2_with fail
 go_ret
 exact⟨rfl,az,aB⟩
theorem ng (w:World) (a h:Int):Calls prog 165 #[ae a,ae h,.pointer none] w fun e w'=>
 e=.returned (ah w.heap.size)/\ea w' w.heap.size a h/\aE w w':=by
 have HP:=ad (AO w a h)
 go_enter func165,ntmps165
 go_wp2_with fail
 refine HP.mono ?_
 rintro e w1 ⟨rfl,h1,h2⟩
 have H1:=ad h1
 clear h1
 go_wp2_with fail
 go_ret
 exact⟨rfl,H1.out,h2⟩
open Go.RowKit
structure ru where
 use:Int
 most:Int
 name:List UInt8
 pri:Int
 A:Option Addr
 len:Nat
 cap:Nat
def kF (f:ru):List Value:=[ae f.use,ae f.most,af f.name,ae f.pri,.slice f.A f.len f.cap]
def FK (f:ru):Value:=.agg #[ae f.use,ae f.most,af f.name,ae f.pri,.slice f.A f.len f.cap]
theorem pe (f:ru):(kF f).length=5:=rfl
theorem xo (f:ru):∀u∈kF f,u.oneCell'=true:=by
 intro u hu
 simp only[kF,List.mem_cons,List.mem_nil_iff,or_false]at hu
 rcases hu with rfl|rfl|rfl|rfl|rfl<;>rfl
theorem tg:∃i z,prog.info? 209=some i/\i.zero=some z/\i.size=5/\i.bytes=64/\z.cells.size=5:=by
 refine⟨_,_,rfl,rfl,?_,?_,?_⟩<;>kernel_rfl
abbrev ej (u:World) (rb:Nat) (wv:Value) (l:List ru):Prop:=aS u (rb+1) 209 5 kF wv l
theorem mq {w1:World} {b:Nat} {a0 a1 a2 a3 a4:Value} {t:TypeId} (h:w1.heap[b]?=some (.cells #[a0,a1,a2,a3,a4] t (0,0))):
 w1.cell? (ak b 0)=some a0/\w1.cell? (ak b 1)=some a1/\w1.cell? (ak b 2)=some a2/\w1.cell? (ak b 3)=some a3/\w1.cell? (ak b 4)=some a4/\(∀o,w1.frozen? ⟨b,o,none⟩=false):=
 ⟨by rw[cell_of_row w1 b 0 _ t (0,0) h];rfl,by rw[cell_of_row w1 b 1 _ t (0,0) h];rfl,by rw[cell_of_row w1 b 2 _ t (0,0) h];rfl,by rw[cell_of_row w1 b 3 _ t (0,0) h];rfl,by rw[cell_of_row w1 b 4 _ t (0,0) h];rfl,fun o=>by simp[World.frozen?,h]⟩
theorem ej.ne {u:World} {rb:Nat} {wv:Value} {l:List ru} (h:ej u rb wv l):wv.ownBlock≠some rb:=fun e=>by have:=(h.lt rb e).1;omega
theorem bU.keep {u u':World} {rb:Nat} {v:jr} {ts:List dq} {s:cI} {B:Nat} (h:bU u rb v ts s B) (hr:u'.heap[rb]?=u.heap[rb]?) (hb:∀k,k<B->u'.heap[k]?=u.heap[k]?):bU u' rb v ts s B:=
 ⟨hr.trans h.blk,h.toks.keep hb,h.base,h.few,h.in'⟩
theorem iI {W W' w9:World} {rb:Nat} {v:jr} {ts:List dq} {s:cI} {B:Nat} {l:List ru} (h:bU W rb v ts s B) (hr:ej W rb v.wv l) (hb:aE W W') (hg:W'.grownBy w9 v.wv.ownBlock):bU w9 rb v ts s B:=
 (h.later hb).keep (hg.block rb (Nat.lt_of_lt_of_le h.blk.lt hb.size) (fun e=>hr.ne e.symm)) fun k hk=>hg.block k (by have:=h.blk.lt;have:=h.base;have:=hb.size;omega) fun e=>by
   have:=(hr.lt k e.symm).1
   have:=h.base
   omega
theorem qM {u W W' w9:World} {rb:Nat} {v:jr} {ts:List dq} {s:cI} {B:Nat} {l:List ru} {f:ru} {nw:Value} (h:bU W rb v ts s B) (hr:ej W rb v.wv l) (hu:Fr (fun k=>k=rb\/v.wv.ownBlock=some k) u W) (hb:aE W W') (hg:W'.grownBy w9 v.wv.ownBlock)
 (hown:w9.ownsRow (rb+1) 209 5 nw (l.length+1) (l.flatMap kF++kF f)) (sf:lR):
 bU (w9.setCell (ak rb 4) nw) rb {v with wv:=nw} ts {s with wait:=sf::s.wait} B/\ej (w9.setCell (ak rb 4) nw) rb nw (l++[f])/\Fr (fun k=>k=rb\/v.wv.ownBlock=some k) u (w9.setCell (ak rb 4) nw):=by
 have h9:=iI h hr hb hg
 have hr9:ej w9 rb nw (l++[f]):=⟨by rw[List.length_append,List.flatMap_append];simpa using hown⟩
 refine⟨h9.put (v':= {v with wv:=nw}) (s':= {s with wait:=sf::s.wait}) 4 nw (by simp[bT]) rfl rfl h9.in',aS.keep hr9 fun k hk=>av _ _ _ _ fun e=>hr9.ne (by rw[hk];exact congrArg some e),?_⟩
 exact((hu.step hb).grown hg fun g hg'=>.inl (.inr hg')).setCell (.inl (.inl rfl)) _
theorem ej.put {u:World} {rb:Nat} {wv:Value} {l:List ru} (h:ej u rb wv l) (i:Nat) (x:Value):ej (u.setCell (ak rb i) x) rb wv l:=
 aS.keep h fun k hk=>av _ _ _ _ fun e=>h.ne (by rw[hk];exact congrArg some e)
theorem xY (u:World) (rb:Nat) (v:jr) (ts:List dq) (s:cI) (B:Nat) (h:bU u rb v ts s B) (l:List ru) (hrow:ej u rb v.wv l) (hl:l.length<=100000) (f:ru) (m:Int) (sf:lR):
 Calls prog 124 #[ah rb,FK f,ae m] u fun e u'=>e=am/\∃wv',bU u' rb {v with wv:=wv'} ts (s.await sf m) B/\ej u' rb wv' (l++[{f with most:=s.most}])∧
  Fr (fun k=>k=rb\/v.wv.ownBlock=some k) u u':=by
 obtain⟨A,cap,hsh⟩:=hrow.shape
 obtain⟨W1,hW1⟩:∃W1,W1=u.alloc (.cells #[ae f.use,ae s.most,af f.name,ae f.pri,.slice f.A f.len f.cap] 209):=⟨_,rfl⟩
 have hb1:aE u W1:=by rw[hW1];exact aB
 have HS:=ad (h.later hb1)
 have HR:Hid (ej W1 rb v.wv l):=ad (aS.later hrow hb1)
 have hnew:W1.heap[u.heap.size]?=some (.cells #[ae f.use,ae s.most,af f.name,ae f.pri,.slice f.A f.len f.cap] 209 (0,0)):=by rw[hW1];exact heap_alloc_new u _
 obtain⟨n0,n1,n2,n3,n4,nf⟩:=mq hnew
 have hsz:W1.heap.size=u.heap.size+1:=by rw[hW1];simp
 have hlt:=h.blk.lt
 have c5:u.cell? (ak rb 5)=some (ae s.most):=h.blk.cell (i:=5) rfl
 have c4:W1.cell? (ak rb 4)=some v.wv:=HS.blk.cell (i:=4) rfl
 have cf:=HS.blk.free
 have HB1:=ad hb1
 clear h hrow hnew hb1
 obtain⟨A0,n,c,ob,bv,wv,x,vb,nv⟩:=v
 simp only at hsh
 subst hsh
 unfold FK
 obtain⟨i0,z0,hi0,hz0,hz1,hz2,hz3⟩:=tg
 go_enter func124,ntmps124
 go_wp2_with fail
 rw[<-hW1]
 clear hW1
 go_region_law
  ((refine step_append_lies _ (by rfl) _ _ _ (by rfl) (rb+1) 209 i0 _ 5 64 underlying146 hi0 hz0 hz1 hz2 hz3 (by omega) (.slice A l.length cap) l.length (l.flatMap kF) (by rfl) (aS.later HR.out (by(repeat (first|exact aA|refine Below.drew ?_|refine Below.alloc ?_ aC _)))).own
     ⟨u.heap.size+1,0,none⟩ 1 1 (kF {f with most:=s.most}) (by rfl) (by rfl) (World.news_of_block (cs:=(kF {f with most:=s.most}).toArray) (t:=209) (fr:=(0,0)) (by rw[<-hsz];exact heap_alloc_new W1 _)) (xo _)
     (by omega) (by unfold maxLen;omega) (by omega) (by simp;omega) (u.heap.size+2) (by simp[hsz]) ?_;intro gg cap2 w9 hown9 hgrow hat9 hlt9;obtain⟨hc9,hf9⟩:w9.cell? (ak rb 4)=some (.slice A l.length cap)/\w9.frozen? ⟨rb,4,none⟩=false:=⟨(iI HS.out HR.out (by(repeat (first|exact aA|refine Below.drew ?_|refine Below.alloc ?_ aC _))) hgrow).blk.cell (i:=4) rfl,(iI HS.out HR.out (by(repeat (first|exact aA|refine Below.drew ?_|refine Below.alloc ?_ aC _))) hgrow).blk.free 4⟩))
 all_goals
  go_wp2_with fail
  obtain⟨r1,r2,r3⟩:=qM (u:=u) HS.out HR.out (Fr.of_below _ HB1.out) (by(repeat (first|exact aA|refine Below.drew ?_|refine Below.alloc ?_ aC _))) hgrow hown9 {sf with most:=s.most}
  refine(sx _ rb _ ts _ B r1 m).mono ?_
  rintro e w10 ⟨rfl,q1,rfl⟩
  have R2:=ad r2
  have R3:=ad r3
  have Q1:=ad q1
  clear r1 r2 r3 q1
  go_wp2_with fail
  exact bodyPost_end (v:=.tuple #[]) (by simp[results,results124,go_sem]) rfl
   ⟨rfl,_,Q1.out,(R2.put 5 _).put 6 _,(R3.setCell (p:=(ak rb 5)) (.inl (.inl rfl)) _).setCell (p:=(ak rb 6)) (.inl (.inl rfl)) _⟩
def Aw:Ending:=.panicked [{v:=.iface 309 (.agg #[]),recovered:=false}]
theorem ej.fr {u u':World} {rb:Nat} {wv:Value} {l:List ru} (h:ej u rb wv l) (hF:Fr (·=rb) u u'):ej u' rb wv l:=
 aS.keep h fun k hk=>hF.block k (h.lt k hk).2 fun e=>h.ne (by rw[hk,e])
theorem oa (u:World) (rb:Nat) (v:jr) (ts:List dq) (s:cI) (B:Nat) (h:bU u rb v ts s B) (l:List ru) (hrow:ej u rb v.wv l) (hl:l.length<=100000) (name:List UInt8):
 Calls prog 127 #[ah rb,af name] u fun e u'=>Fr (fun k=>k=rb\/v.wv.ownBlock=some k) u u'∧
  (if kK ts s.at' 40 then e=am/\∃wv',bU u' rb {v with wv:=wv'} ts ((s.go 1).await ⟨2,0,name,0,[]⟩ 999) B/\ej u' rb wv' (l++[⟨2,s.most,name,0,none,0,0⟩])
  else e=Aw/\bU u' rb v ts s B):=by
 have HA:=ad h
 have HR:=ad hrow
 clear h hrow
 cases hq:kK ts s.at' 40 with
 |true=>
  simp only[if_true]
  go_enter func127,ntmps127
  go_wp2_with fail
  refine(jH _ rb v ts s B HA.out 40).mono ?_
  rintro e w1 ⟨hF,h1⟩
  rw[hq,if_pos rfl]at h1
  obtain⟨rfl,h1⟩:=h1
  have H1:=ad h1
  have HF:=ad hF
  have HR1:=ad (ej.fr HR.out hF)
  clear h1 hF
  go_wp2_with fail
  refine(xY _ rb v ts _ B H1.out l HR1.out hl ⟨2,0,name,0,none,0,0⟩ 999 ⟨2,0,name,0,[]⟩).mono ?_
  rintro e w2 ⟨rfl,wv',r1,r2,r3⟩
  have R1:=ad r1
  have R2:=ad r2
  have R3:=ad r3
  clear r1 r2 r3
  go_wp2_with fail
  exact bodyPost_end (v:=.tuple #[]) (by simp[results,results127,go_sem]) rfl
   ⟨(HF.weak fun k hk=>.inl hk).trans R3.out,rfl,wv',R1.out,R2.out⟩
 |false=>
  simp only[Bool.false_eq_true,if_false]
  go_enter func127,ntmps127
  go_wp2_with fail
  refine(jH _ rb v ts s B HA.out 40).mono ?_
  rintro e w1 ⟨hF,h1⟩
  rw[hq,if_neg (by simp)]at h1
  obtain⟨rfl,h1⟩:=h1
  exact⟨rfl,hF.weak fun k hk=>.inl hk,rfl,h1⟩
theorem sX (u:World) (rb:Nat) (v:jr) (ts:List dq) (s:cI) (B:Nat) (h:bU u rb v ts s B) (t:dq) (hat:s.at'<ts.length):
 Calls prog 55 #[ah rb,jm t] u fun e u'=>Fr (·=rb) u u'∧
  (if t.n<0 then e=Aw/\bU u' rb v ts s B else e=am/\bU u' rb {v with x:=⟨2,t.n,[],none,0,0⟩} ts ((s.go 1).done (iv t.n) 0) B):=by
 have HA:=ad h
 have c1:u.cell? (ak rb 1)=some (ae (s.at':Int)):=h.blk.cell (i:=1) rfl
 have cf:=h.blk.free
 have hf:=h.few
 have hlt:=h.blk.lt
 have hwr:IntKind.i64.wrap ((s.at':Int)+1)=(s.at':Int)+1:=IntWalk.i64_in _ (by omega)
 clear h
 unfold jm
 by_cases hn:t.n<0
 ·simp only[hn,if_true]
  go_enter func55,ntmps55
  go_wp2_with fail
  refine(ri _ _).mono ?_
  rintro e w1 ⟨rfl,hb⟩
  have hb0:aE u w1:=aB.trans (hb.mono (by simp))
  exact⟨rfl,.of_below _ hb0,rfl,HA.later hb0⟩
 ·simp only[hn,if_false]
  go_enter func55,ntmps55
  go_wp2_with fail
  have h1:=HA.put (v':=v) (s':=s.go 1) 1 (ae ((s.at':Int)+1)) (by simp[bT,cI.go]) rfl rfl (by show s.at'+1<=_;omega)
  have h2:=h1.later (aA.alloc aC (.cells #[ae t.kind,ae t.line,ae t.n,af t.s,.bool t.opn,.bool t.tight] 139))
  have hF:=((Fr.refl (·=rb) u).setCell (p:=(ak rb 1)) (.inl rfl) (ae ((s.at':Int)+1))).alloc (.cells #[ae t.kind,ae t.line,ae t.n,af t.s,.bool t.opn,.bool t.tight] 139)
  refine(mv _ rb v ts _ B h2 ⟨2,t.n,[],none,0,0⟩ (iv t.n) 0).mono ?_
  rintro e w1 ⟨rfl,r1,r2⟩
  have R1:=ad r1
  have R2:=ad (hF.trans r2)
  clear r1 r2 hF h1 h2
  go_wp2_with fail
  exact bodyPost_end (v:=.tuple #[]) (by simp[results,results55,go_sem]) rfl ⟨R2.out,rfl,R1.out⟩
variable[Base]
theorem DA (w:World) (n:Nat) (h1:1<=n) (h2:n<=16777216) (hB:Base.b<=w.heap.size):Calls prog 37 #[ae (n:Nat)] w fun e w'=>
 ∃sb,e=.returned (.tuple #[ah sb,ae 0])/\w.heap.size<=sb/\aL sb n w' aj aj [] [] []/\aE w w':=by
 have a1:¬(n:Int)<1:=by omega
 have a2:¬(16777216:Int)<(n:Int):=by omega
 have HN:=ad (aD h1 h2)
 clear h1 h2
 go_enter func37,ntmps37
 go_wp2_with fail
 go_ret2
 refine⟨_,rfl,aC,?_,aB⟩
 exact⟨az,aS.nil _ _ _ _ _,aS.nil _ _ _ _ _,rfl,fun i x c h=>by simp at h,Nat.zero_le _,⟨HN.2,hB⟩,fun i h=>by simp at h,fun i c h=>by simp at h,fun i c h=>by simp at h,fun y h=>by simp at h,by simp⟩
omit[Base]in
theorem vv (w:World):Calls prog 72 #[.string ⟨#[112]⟩,ae 1] w fun e w'=>e=.returned (.bool false)/\w'=w:=by
 go_enter func72,ntmps72
 go_wp2_with fail
 go_ret
 exact⟨rfl,rfl⟩
omit[Base]in
theorem vB (w:World):Calls prog 73 #[.string ⟨#[112]⟩,ae 1] w fun e w'=>e=.returned (.bool false)/\w'=w:=by
 go_enter func73,ntmps73
 go_wp2_with fail
 go_ret
 exact⟨rfl,rfl⟩
end
end Go.Proofs.YtigeofkllldilaaGreatDoor
