import Derived.Test.YtigeofkllldilaaGreatDoorJM22
import Derived.Laws.EntriesVeiled
set_option maxHeartbeats 32000000
set_option maxRecDepth 100000
set_option linter.unusedSectionVars false
open Go.Proofs.Tryz
namespace Go.Proofs.YtigeofkllldilaaGreatDoor
section
open Go.RowKit Go.Maps
def qy (b:Nat):List Value:=[ah b]
abbrev iU (u:World) (rb:Nat) (v:Value) (l:List Nat):Prop:=aS u (rb+1) 241 1 qy v l
theorem ly:∃i z,prog.info? 241=some i/\i.zero=some z/\i.size=1/\i.bytes=8/\z.cells.size=1:=by
 refine⟨_,_,rfl,rfl,?_,?_,?_⟩<;>kernel_rfl
theorem qx (x:Nat):∀u∈qy x,u.oneCell'=true:=by
 intro u hu
 simp only[qy,List.mem_singleton]at hu
 subst hu
 rfl
theorem wZ (w:World) (db m:Value) (s:List UInt8) (n:Int):Calls prog 159 #[.pointer none,db,m,af s,ae n] w fun e w'=>e=.returned (.tuple #[.agg #[ae 0,aj,aj],.bool false])/\aE w w':=by
 go_enter func159,ntmps159
 go_wp2_with fail
 have hz:=heap_alloc_new w (.cells #[ae 0,aj,aj] 249)
 have c0:=(cell_of_row _ _ 0 _ _ _ hz).trans rfl
 have c1:=(cell_of_row _ _ 1 _ _ _ hz).trans rfl
 have c2:=(cell_of_row _ _ 2 _ _ _ hz).trans rfl
 exact bodyPost_ret (v:=.tuple #[.agg #[ae 0,aj,aj],.bool false]) (by simp[results,results159,go_sem,c0,c1,c2]) rfl ⟨rfl,aB⟩
variable[Base]
section
variable {sb room:Nat} {u:World} {cv bv:Value} {xs:List ec} {cs:List Sc} {ys:List (Nat×Int)}
theorem uP (h:aL sb room u cv bv xs cs ys):Calls prog 157 #[ah sb] u fun e u'=>e=.returned (ae (ys.length:Nat))/\u'=u:=by
 obtain⟨A,c,rfl⟩:=h.bonds.shape
 obtain⟨-,-,c2,-⟩:=h.cells
 have hl:=h.lt
 clear h
 go_enter func157,ntmps157
 go_wp2_with fail
 go_ret
 exact⟨rfl,rfl⟩
theorem ky (h:aL sb room u cv bv xs cs ys):Calls prog 158 #[ah sb] u fun e u'=>e=.returned (ae (cs.length:Nat))/\u'=u:=by
 have hln:=h.len
 obtain⟨A,c,rfl⟩:=h.row.shape
 obtain⟨-,c1,-,-⟩:=h.cells
 have hl:=h.lt
 rw[hln]at c1
 clear h
 go_enter func158,ntmps158
 go_wp2_with fail
 go_ret
 exact⟨rfl,rfl⟩
end
end
section
open Go.RowKit
def lg (w:World) (b:Nat) (k a h:Int) (c nx mk:Value):Prop:=w.heap[b]?=some (.cells #[ae k,ae a,ae h,c,nx,mk] 243 (0,0))
theorem lg.lt {w:World} {b:Nat} {k a h:Int} {c nx mk:Value} (h1:lg w b k a h c nx mk):b<w.heap.size:=(ap h1).1
theorem lg.cells {w:World} {b:Nat} {k a h:Int} {c nx mk:Value} (h1:lg w b k a h c nx mk):w.cell? (ak b 0)=some (ae k)/\w.cell? (ak b 1)=some (ae a)/\w.cell? (ak b 2)=some (ae h)/\w.cell? (ak b 3)=some c/\w.cell? (ak b 4)=some nx/\w.cell? (ak b 5)=some mk:=by
 have hc:=fun k=>cell_of_row w b k _ _ _ h1
 exact⟨(hc 0).trans rfl,(hc 1).trans rfl,(hc 2).trans rfl,(hc 3).trans rfl,(hc 4).trans rfl,(hc 5).trans rfl⟩
theorem Aa (w:World) (cb:Nat):Calls prog 169 #[.agg #[ae 2,ae 0,ae 0,ah cb,.pointer none,.pointer none],.pointer none] w fun e w'=>
 e=.returned (ah w.heap.size)/\lg w' w.heap.size 2 0 0 (ah cb) (.pointer none) (ah w.heap.size)/\aE w w':=by
 go_enter func169,ntmps169
 go_wp2_with fail
 go_ret
 exact⟨rfl,az,aB⟩
theorem yz (w:World) (x y:Int) (fb:Nat) (k a h:Int) (c nx:Value) (mk:Option Addr) (hf:lg w fb k a h c nx (.pointer mk)):Calls prog 169 #[.agg #[ae 0,ae x,ae y,.pointer none,.pointer none,.pointer none],ah fb] w fun e w'=>
 e=.returned (ah w.heap.size)/\lg w' w.heap.size 0 x y (.pointer none) (ah fb) (.pointer mk)/\aE w w':=by
 obtain⟨-,-,-,-,-,f5⟩:=hf.cells
 have hl:=hf.lt
 clear hf
 go_enter func169,ntmps169
 go_wp2_with fail
 go_ret
 exact⟨rfl,az,aB⟩
theorem rC (w:World) (x y:Int) (fb:Nat) (k a h:Int) (c nx:Value) (mk:Option Addr) (hf:lg w fb k a h c nx (.pointer mk)):Calls prog 165 #[ae x,ae y,ah fb] w fun e w'=>
 e=.returned (ah w.heap.size)/\lg w' w.heap.size 0 x y (.pointer none) (ah fb) (.pointer mk)/\aE w w':=by
 have HP:=ad (yz w x y fb k a h c nx mk hf)
 clear hf
 go_enter func165,ntmps165
 go_wp2_with fail
 refine HP.mono ?_
 rintro e w1 ⟨rfl,h1,h2⟩
 have H1:=ad h1
 clear h1
 go_wp2_with fail
 go_ret
 exact⟨rfl,H1.out,h2⟩
theorem ul (u:World) (p:Value) (a:Int) (x y:TV) (hC:∀w,aE u w->Calls prog 249 #[aU x,aU y] w fun e w'=>e=.returned (ae 0)/\aE w w'):
 Calls prog 268 #[p,ae a,aU x,aU y] u fun e u'=>e=.returned (.tuple #[ae a,ae 0])/\aE u u':=by
 obtain⟨W,hW⟩:∃W,W=(u.alloc (.cells #[ae x.k,ae x.n,af x.s,.slice x.A x.len x.cap] 27)).alloc (.cells #[ae y.k,ae y.n,af y.s,.slice y.A y.len y.cap] 27):=⟨_,rfl⟩
 have hb:aE u W:=by rw[hW];exact aB.alloc (by simp) _
 have hx:W.heap[u.heap.size]?=some (.cells #[ae x.k,ae x.n,af x.s,.slice x.A x.len x.cap] 27 (0,0)):=by
  rw[hW,aw _ _ _ (by simp)]
  exact az
 have hy:W.heap[u.heap.size+1]?=some (.cells #[ae y.k,ae y.n,af y.s,.slice y.A y.len y.cap] 27 (0,0)):=by
  rw[hW,<-World.size_alloc u (.cells #[ae x.k,ae x.n,af x.s,.slice x.A x.len x.cap] 27)]
  exact az
 have HC:=ad (hC W hb)
 have HB:=ad hb
 obtain⟨x0,x1,x2,x3,-⟩:=aH hx
 obtain⟨y0,y1,y2,y3,-⟩:=aH hy
 clear hC hb hx hy
 unfold aU at HC⊢
 go_enter func268,ntmps268
 go_upto_region 1 with fail
 rw[<-hW]
 clear hW
 go_wp2_with fail
 refine HC.mono ?_
 rintro e w1 ⟨rfl,hb1⟩
 have HB1:=ad (HB.trans (hb1.mono HB.size))
 clear hb1 x0 x1 x2 x3 y0 y1 y2 y3
 go_wp2_with fail
 exact bodyPost_ret (v:=.tuple #[ae a,ae 0]) (by simp[results,results268,go_sem]) rfl ⟨rfl,HB1.out⟩
open Go.RowKit Go.Maps
variable[Base]
theorem ws (w:World):Calls prog 38 #[] w fun e w'=>e=.returned (.agg fm.toArray)/\aE w w':=by
 go_enter func38,ntmps38
 go_wp2_with fail
 obtain⟨W,hW⟩:∃W,W=w.alloc (.cells fm.toArray 121):=⟨_,rfl⟩
 have hb:aE w W:=by rw[hW];exact aB
 have hz:W.heap[w.heap.size]?=some (.cells fm.toArray 121 (0,0)):=by rw[hW];exact az
 have hc:∀i,W.cell? (ak w.heap.size i)=fm.toArray[i]?:=fun i=>cell_of_row _ _ i _ _ _ hz
 have f0:=(hc 0).trans rfl
 have f1:=(hc 1).trans rfl
 have f2:=(hc 2).trans rfl
 have f3:=(hc 3).trans rfl
 have f4:=(hc 4).trans rfl
 have f5:=(hc 5).trans rfl
 have f6:=(hc 6).trans rfl
 have f7:=(hc 7).trans rfl
 have f8:=(hc 8).trans rfl
 have f9:=(hc 9).trans rfl
 have f10:=(hc 10).trans rfl
 have f11:=(hc 11).trans rfl
 show bodyPost _ _ _ _ _ (w.alloc (.cells fm.toArray 121))
 rw[<-hW]
 exact bodyPost_ret (v:=.agg fm.toArray) (by simp[results,results38,go_sem,f0,f1,f2,f3,f4,f5,f6,f7,f8,f9,f10,f11,fm,wN]) rfl ⟨rfl,hb⟩
theorem xK (u:World) (rb:Nat) (r:RC) (l:List (Int×List UInt8)) (db ob:Nat) (spent:Int) (over:List UInt8) (C:Option Addr) (c:Nat) (h:aT u rb r l db ob spent over) (hc:r.ch=.slice C 0 c) (hl:l.length+1<=100000):
 Calls prog 106 #[ah rb] u fun e u'=>e=.returned (ae 3)/\∃v,aT u' rb {r with ev:=v} (l++[(2,[])]) db ob spent over/\TF rI u u':=by
 refine aa fun P hP=>?_
 have HP:=ad hP
 have c8:u.cell? (ak rb 8)=some (.slice C 0 c):=(h.run.get 8).trans (by show some r.ch=_;rw[hc])
 have hlt:=h.run.lt
 have HR:=ad (aD h hl)
 clear h hc hl hP
 go_enter func106,ntmps106
 go_wp2_with fail
 go_loopw [2] (fun i wr=>i=ae 0/\Hid (wr=u)) (fun _ _=>0)
 case atStart=>exact⟨rfl,ad rfl⟩
 case round=>
  obtain⟨rfl,HW⟩:=hrel
  obtain rfl:=HW.out
  go_wp2_with fail
  refine(gJ _ rb r l 2 [] HR.1.run HR.1.ev HR.1.few.1 HR.1.few.2.1).mono ?_
  rintro e w2 ⟨rfl,v,h1,h2,h3⟩
  have HQ:Hid (P (.returned (ae 3)) w2):=ad (by
   rw[HP.out]
   exact⟨rfl,v,⟨h1,h2,(h3.block ⟨_,HR.1.mach⟩ (by decide)).trans HR.1.mach,by simpa using HR.2,HR.1.few.2⟩,h3.mono (by decide)⟩)
  clear h1 h2 h3
  go_wp2_with fail
  exact HQ.out
end
section
open Go.RowKit
theorem vU (u:World) (p fv v:Value) (x:TV):Calls prog 79 #[p,fv,aU x,v] u fun e u'=>e=.returned (ae 0)/\aE u u':=by
 unfold aU
 go_enter func79,ntmps79
 go_wp2_with fail
 go_ret
 exact⟨rfl,by first|exact aA|exact aB⟩
def bC (t:dq):List Value:=[ae t.kind,ae t.line,ae t.n,af t.s,.bool t.opn,.bool t.tight]
theorem uo (t:dq):(bC t).length=6:=rfl
theorem fJ (t:dq):∀u∈bC t,u.oneCell'=true:=by
 intro u hu
 simp only[bC,List.mem_cons,List.mem_nil_iff,or_false]at hu
 rcases hu with rfl|rfl|rfl|rfl|rfl|rfl<;>rfl
theorem iV:∃i z,prog.info? 139=some i/\i.zero=some z/\i.size=6/\i.bytes=48/\z.cells.size=6:=by
 refine⟨_,_,rfl,rfl,?_,?_,?_⟩<;>kernel_rfl
structure dM (w:World) (B bx tb:Nat) (T:List UInt8) (a ln en:Nat) (v:Value) (ts:List dq) (t:fl) (tl:Int) (o q:Bool) (u:World):Prop where
 lex:bk u bx T a ln en v
 tok:u.heap[tb]?=some (.cells #[ae t.kind,ae tl,ae t.n,af t.s,.bool o,.bool q] 139 (0,0))
 row:aS u B 139 6 bC v ts
 fr:Fr (fun k=>k=bx\/B<=k) w u
 bx_lt:bx<B
 base:B<=tb
 ne:v.ownBlock≠some tb
section
variable {w u u':World} {B bx tb a ln en:Nat} {T:List UInt8} {v:Value} {ts:List dq} {t:fl} {tl:Int} {o q:Bool}
theorem dM.row_ne (h:dM w B bx tb T a ln en v ts t tl o q u):v.ownBlock≠some bx:=fun e=>by have:=(h.row.lt bx e).1;have:=h.bx_lt;omega
theorem aS.setCell_ne {e:TypeId} {sz:Nat} {α:Type} {enc:α->List Value} {l:List α} (h:aS u B e sz enc v l) {p:Addr} (hp:v.ownBlock≠some p.block) (x:Value):aS (u.setCell p x) B e sz enc v l:=
 h.keep fun k hk=>Below.heap_setCell u p x k (fun e=>hp (by rw[hk,e]))
theorem dM.drew (h:dM w B bx tb T a ln en v ts t tl o q u):dM w B bx tb T a ln en v ts t tl o q u.drew:=
 ⟨h.lex.drew,h.tok,h.row.keep fun _ _=>rfl,h.fr.drew,h.bx_lt,h.base,h.ne⟩
theorem dM.setTight (h:dM w B bx tb T a ln en v ts t tl o q u) (q':Bool):dM w B bx tb T a ln en v ts t tl o q' (u.setCell (ak tb 5) (.bool q')):=
 ⟨h.lex.keep (av _ _ _ _ (by have:=h.base;have:=h.bx_lt;simp only;omega)),ca h.tok _,h.row.setCell_ne h.ne _,h.fr.setCell (.inl (.inr h.base)) _,h.bx_lt,h.base,h.ne⟩
theorem dM.setOpen (h:dM w B bx tb T a ln en v ts t tl o q u) (o':Bool):dM w B bx tb T a ln en v ts t tl o' q (u.setCell (ak tb 4) (.bool o')):=
 ⟨h.lex.keep (av _ _ _ _ (by have:=h.base;have:=h.bx_lt;simp only;omega)),ca h.tok _,h.row.setCell_ne h.ne _,h.fr.setCell (.inl (.inr h.base)) _,h.bx_lt,h.base,h.ne⟩
theorem dM.setEn (h:dM w B bx tb T a ln en v ts t tl o q u) (en':Nat):dM w B bx tb T a ln en' v ts t tl o q (u.setCell (ak bx 3) (ae (en':Int))):=
 ⟨h.lex.setEn en',(av _ _ _ _ (by have:=h.base;have:=h.bx_lt;simp only;omega)).trans h.tok,h.row.setCell_ne h.row_ne _,h.fr.setCell (.inl (.inl rfl)) _,h.bx_lt,h.base,h.ne⟩
theorem dM.to {a' ln':Nat} (h:dM w B bx tb T a ln en v ts t tl o q u) (hl:bk u' bx T a' ln' en v) (hF:Fr (·=bx) u u'):dM w B bx tb T a' ln' en v ts t tl o q u':=by
 have hb:=h.base
 have hx:=h.bx_lt
 have htb:=(ap h.tok).1
 exact⟨hl,(hF.block tb htb (by omega)).trans h.tok,h.row.keep fun k hk=>hF.block k (h.row.lt k hk).2 (by have:=(h.row.lt k hk).1;omega),h.fr.trans (hF.weak fun k hk=>.inl hk),hx,hb,h.ne⟩
theorem dM.facts (h:dM w B bx tb T a ln en v ts t tl o q u):(u.cell? (ak tb 0)=some (ae t.kind)/\u.cell? (ak tb 1)=some (ae tl)/\u.cell? (ak tb 2)=some (ae t.n)/\u.cell? (ak tb 3)=some (af t.s)/\u.cell? (ak tb 4)=some (.bool o)/\u.cell? (ak tb 5)=some (.bool q))/\(∀o,u.frozen? ⟨tb,o,none⟩=false):=yg h.tok
end
def tight (ts:List dq) (a en:Nat):Bool:=decide (ts≠[])&&((a:Int)==(en:Int))
def oU (T:List UInt8) (k:Nat):Bool:=decide (T[k]?=some 40)
theorem xV (d:UInt8):decide (some d=some (40:UInt8))=((d.toNat:Int)==40):=by
 by_cases h:d=40
 ·subst h;rfl
 ·rw[decide_eq_false (by simpa using h)]
  exact(jg h).symm
theorem dM.last {w W W' w9:World} {B bx tb a ln en:Nat} {T:List UInt8} {A:Option Addr} {cap gg cap2:Nat} {ts:List dq} {t:fl} {tl:Int} {o q:Bool}
 (h:dM w B bx tb T a ln en (.slice A ts.length cap) ts t tl o q W)
 (hown:w9.ownsRow B 139 6 (al gg (ts.length+1) cap2) (ts.length+1) (ts.flatMap bC++bC ⟨t.kind,tl,t.n,t.s,o,q⟩))
 (hb:aE W W') (hg:W'.grownBy w9 (Value.slice A ts.length cap).ownBlock):
 ∃v',bk (w9.setCell (ak bx 4) (al gg (ts.length+1) cap2)) bx T a ln en v'/\aS (w9.setCell (ak bx 4) (al gg (ts.length+1) cap2)) B 139 6 bC v' (ts++[⟨t.kind,tl,t.n,t.s,o,q⟩])∧
  Fr (fun k=>k=bx\/B<=k) w (w9.setCell (ak bx 4) (al gg (ts.length+1) cap2)):=by
 have hbx:=h.lex.lt
 have hne:=h.row_ne
 have h9:bk w9 bx T a ln en (.slice A ts.length cap):=(h.lex.later hb).keep (hg.block bx (Nat.lt_of_lt_of_le hbx hb.size) (fun e=>hne e.symm))
 have hr:aS w9 B 139 6 bC (al gg (ts.length+1) cap2) (ts++[⟨t.kind,tl,t.n,t.s,o,q⟩]):=⟨by rw[List.length_append,List.flatMap_append];simpa using hown⟩
 have hbB:=h.bx_lt
 refine⟨_,h9.setL _,hr.setCell_ne (p:=(ak bx 4)) (fun e=>by have:=(hr.lt bx e).1;omega) _,?_⟩
 exact((h.fr.step hb).grown hg (fun g hg'=>.inl (.inr (h.row.lt g hg').1))).setCell (.inl (.inl rfl)) _
theorem dM.behind {w W W' w9:World} {B bx tb a ln en:Nat} {T:List UInt8} {v:Value} {ts:List dq} {t:fl} {tl:Int} {o q:Bool}
 (h:dM w B bx tb T a ln en v ts t tl o q W) (hb:aE W W') (hg:W'.grownBy w9 v.ownBlock):w9.cell? (ak bx 4)=some v/\w9.frozen? ⟨bx,4,none⟩=false:=by
 have h9:=(h.lex.later hb).keep (hg.block bx (Nat.lt_of_lt_of_le h.lex.lt hb.size) (fun e=>h.row_ne e.symm))
 exact⟨h9.cells.2.2.2.2.1,h9.cells.2.2.2.2.2 4⟩
theorem Cd (w:World) (B bx:Nat) (T:List UInt8) (a ln en:Nat) (v:Value) (ts:List dq) (h:bk w bx T a ln en v) (hrow:aS w B 139 6 bC v ts) (hbx:bx<B) (hB:B<=w.heap.size) (hts:ts.length<=100000)
 (t:fl) (ni:Int) (hni:ni=(t.len:Int)) (han:a+t.len<=T.length) (hT:(T.length:Int)<=400000) (hln:(ln:Int)<=1000000):
 Calls prog 54 #[ah bx,jF t,ae ni] w fun e w'=>e=am/\∃v',bk w' bx T (a+t.len) (ln+lC ((T.drop a).take t.len)) (a+t.len) v'∧
  aS w' B 139 6 bC v' (ts++[⟨t.kind,(ln:Int),t.n,t.s,oU T (a+t.len),tight ts a en⟩])/\Fr (fun k=>k=bx\/B<=k) w w':=by
 obtain⟨A,cap,rfl⟩:=hrow.shape
 obtain⟨c0,c1,c2,c3,c4,hf⟩:=h.cells
 have hblt:=h.lt
 obtain⟨W1,hW1⟩:∃W1,W1=w.alloc (.cells #[ae t.kind,ae (ln:Int),ae t.n,af t.s,.bool false,.bool false] 139):=⟨_,rfl⟩
 have HS1:Hid (dM w B bx w.heap.size T a ln en (.slice A ts.length cap) ts t (ln:Int) false false W1):=by
  rw[hW1]
  exact⟨h.later aB,heap_alloc_new w _,hrow.alloc _,(Fr.refl _ _).alloc _,hbx,hB,fun e=>by have:=(hrow.lt _ e).2;omega⟩
 clear h hrow
 unfold jF
 subst hni
 have hto:∀u,bk u bx T a ln en (.slice A ts.length cap)->Calls prog 117 #[ah bx,ae (t.len:Int)] u fun e w'=>e=am/\bk w' bx T (a+t.len) (ln+lC ((T.drop a).take t.len)) en (.slice A ts.length cap)/\Fr (·=bx) u w':=
  fun u hu=>Be u bx T a ln en _ hu t.len _ rfl han (by omega) (by omega)
 obtain⟨z,hz⟩:∃z,a+t.len=z:=⟨_,rfl⟩
 rw[hz]at hto han⊢
 have HTO:=ad hto
 clear hto
 obtain⟨tb,htb⟩:∃tb,tb=w.heap.size:=⟨_,rfl⟩
 rw[<-htb]at HS1
 obtain⟨q,hq⟩:∃q,tight ts a en=q:=⟨_,rfl⟩
 rw[hq]
 obtain⟨ob,hob⟩:∃ob,oU T z=ob:=⟨_,rfl⟩
 rw[hob]
 go_enter func54,ntmps54
 go_wp2_with fail
 rw[<-hW1,<-htb]
 clear hW1 htb c0 c1 c2 c3 c4 hf hblt
 obtain⟨c0,c1,c2,c3,c4,hf⟩:=HS1.lex.cells
 obtain⟨⟨b0,b1,b2,b3,b4,b5⟩,hfb⟩:=HS1.facts
 rcases Classical.em (ts=[])with hts0|hts0
 case' inl=>
  obtain rfl:false=q:=by rw[<-hq];unfold tight;rw[decide_eq_false (by simpa using hts0)];rfl
  have hdec:decide (0<ts.length)=false:=by rw[hts0];rfl
  clear hts0
  (refine wp_region_still_tail 18 (by kernel_rfl) (by kernel_rfl) ?_;simp only[List.take_succ_cons,List.take_zero,List.drop_succ_cons,List.drop_zero];repeat (with_reducible refine wpStill_step ?_;intro KK hKK;go_simp;with_reducible refine hKK _ ?_;clear hKK KK));try (with_reducible refine wpStill_nil ?_)
  have HS2:=ad (HS1.setTight false).drew
 case' inr=>
  have hpos:(0:Int)<(ts.length:Int):=by have:=List.length_pos_iff.2 hts0;omega
  have hdec:decide (0<ts.length)=true:=decide_eq_true (List.length_pos_iff.2 hts0)
  have htight:((a:Int)==(en:Int))=q:=by rw[<-hq];unfold tight;rw[decide_eq_true hts0];simp
  clear hts0
  (refine wp_region_still_tail 18 (by kernel_rfl) (by kernel_rfl) ?_;simp only[List.take_succ_cons,List.take_zero,List.drop_succ_cons,List.drop_zero];repeat (with_reducible refine wpStill_step ?_;intro KK hKK;go_simp;with_reducible refine hKK _ ?_;clear hKK KK));try (with_reducible refine wpStill_nil ?_)
  have HS2:=ad (HS1.setTight q).drew
 all_goals
  go_wp2_with fail
  refine(HTO.out _ HS2.lex).mono ?_
  rintro e w3 ⟨rfl,hl3,hF3⟩
  have HS3:=ad (HS2.to hl3 hF3)
  clear HS2 hl3 hF3 HS1 c0 c1 c2 c3 c4 hf b0 b1 b2 b3 b4 b5 hfb hdec
  obtain⟨c0,c1,c2,c3,c4,hf⟩:=HS3.lex.cells
  go_wp2_with fail
  obtain⟨W4,hW4⟩:∃W4,W4=w3.setCell (ak bx 3) (ae (z:Int)):=⟨_,rfl⟩
  have HS4:=ad (HS3.setEn z)
  rw[<-hW4]at HS4⊢
  clear hW4 c0 c1 c2 c3 c4 hf HS3
  obtain⟨c0,c1,c2,c3,c4,hf⟩:=HS4.lex.cells
  obtain⟨⟨b0,b1,b2,b3,b4,b5⟩,hfb⟩:=HS4.facts
  rcases Nat.lt_or_ge z T.length with hlt|hge
  case' inl=>
   obtain⟨d,-,hx,hgd⟩:=kJ T z hlt
   have hlt':(z:Int)<(T.length:Int):=by omega
   have hdec2:decide ((z:Int)<(T.length:Int))=true:=decide_eq_true hlt'
   have hdec3:decide (z<T.length)=true:=decide_eq_true hlt
   have hq2:((d.toNat:Int)==40)=ob:=by rw[<-hob];unfold oU;rw[hgd];exact(xV d).symm
   (refine wp_region_still_tail 23 (by kernel_rfl) (by kernel_rfl) ?_;simp only[List.take_succ_cons,List.take_zero,List.drop_succ_cons,List.drop_zero];repeat (with_reducible refine wpStill_step ?_;intro KK hKK;go_simp;with_reducible refine hKK _ ?_;clear hKK KK));try (with_reducible refine wpStill_nil ?_)
   go_wp2_with fail
   obtain⟨W5,hW5⟩:∃W5,W5=(W4.setCell (ak tb 4) (.bool ob)).drew:=⟨_,rfl⟩
   have HS5:=ad (HS4.setOpen ob).drew
   rw[<-hW5]at HS5⊢
   clear hq2 hlt' hdec2 hdec3 hx hgd hlt hW5
  case' inr=>
   obtain rfl:false=ob:=by rw[<-hob];unfold oU;rw[List.getElem?_eq_none hge];rfl
   have hdec2:decide ((z:Int)<(T.length:Int))=false:=decide_eq_false (by omega)
   have hdec3:decide (z<T.length)=false:=decide_eq_false (by omega)
   clear hge
   (refine wp_region_still_tail 23 (by kernel_rfl) (by kernel_rfl) ?_;simp only[List.take_succ_cons,List.take_zero,List.drop_succ_cons,List.drop_zero];repeat (with_reducible refine wpStill_step ?_;intro KK hKK;go_simp;with_reducible refine hKK _ ?_;clear hKK KK));try (with_reducible refine wpStill_nil ?_)
   go_wp2_with fail
   obtain⟨W5,hW5⟩:∃W5,W5=(W4.setCell (ak tb 4) (.bool false)).drew:=⟨_,rfl⟩
   have HS5:=ad (HS4.setOpen false).drew
   rw[<-hW5]at HS5⊢
   clear hdec2 hdec3 hW5
 ·clear c0 c1 c2 c3 c4 hf hfb b0 b1 b2 b3 b4 b5 HS4 HTO
  obtain⟨c0,c1,c2,c3,c4,hf⟩:=HS5.lex.cells
  obtain⟨⟨b0,b1,b2,b3,b4,b5⟩,hfb⟩:=HS5.facts
  have htbl:=(ap HS5.tok).1
  have hbxl:=HS5.lex.lt
  obtain⟨i0,z0,hi0,hz0,hz1,hz2,hz3⟩:=iV
  have hBB:B<=W5.heap.size:=Nat.le_trans HS5.base (Nat.le_of_lt htbl)
  go_region_law
   ((refine step_append_lies _ (by rfl) _ _ _ (by rfl) B 139 i0 _ 6 48 underlying67 hi0 hz0 hz1 hz2 hz3 (by omega) (.slice A ts.length cap) ts.length (ts.flatMap bC) (by rfl) (HS5.row.later (by(repeat (first|exact aA|refine Below.drew ?_|refine Below.alloc ?_ aC _)))).own
      ⟨W5.heap.size,0,none⟩ 1 1 (bC ⟨t.kind,(ln:Int),t.n,t.s,false,q⟩) (by rfl) (by rfl) (World.news_of_block (cs:=(bC ⟨t.kind,(ln:Int),t.n,t.s,false,q⟩).toArray) (t:=139) (fr:=(0,0)) (by exact heap_alloc_new W5 _)) (fJ _)
      (by omega) (by unfold maxLen;omega) (by omega) (by simp;omega) (W5.heap.size+1) (by simp) ?_;intro gg cap2 w9 hown9 hgrow hat9 hlt9;obtain⟨hc9,hf9⟩:=HS5.behind (by(repeat (first|exact aA|refine Below.drew ?_|refine Below.alloc ?_ aC _))) hgrow))
  all_goals
   go_wp2_with fail
   go_end0
   exact⟨rfl,HS5.last hown9 (by(repeat (first|exact aA|refine Below.drew ?_|refine Below.alloc ?_ aC _))) hgrow⟩
 ·clear c0 c1 c2 c3 c4 hf hfb b0 b1 b2 b3 b4 b5 HS4 HTO
  obtain⟨c0,c1,c2,c3,c4,hf⟩:=HS5.lex.cells
  obtain⟨⟨b0,b1,b2,b3,b4,b5⟩,hfb⟩:=HS5.facts
  have htbl:=(ap HS5.tok).1
  have hbxl:=HS5.lex.lt
  obtain⟨i0,z0,hi0,hz0,hz1,hz2,hz3⟩:=iV
  have hBB:B<=W5.heap.size:=Nat.le_trans HS5.base (Nat.le_of_lt htbl)
  go_region_law
   ((refine step_append_lies _ (by rfl) _ _ _ (by rfl) B 139 i0 _ 6 48 underlying67 hi0 hz0 hz1 hz2 hz3 (by omega) (.slice A ts.length cap) ts.length (ts.flatMap bC) (by rfl) (HS5.row.later (by(repeat (first|exact aA|refine Below.drew ?_|refine Below.alloc ?_ aC _)))).own
      ⟨W5.heap.size,0,none⟩ 1 1 (bC ⟨t.kind,(ln:Int),t.n,t.s,ob,q⟩) (by rfl) (by rfl) (World.news_of_block (cs:=(bC ⟨t.kind,(ln:Int),t.n,t.s,ob,q⟩).toArray) (t:=139) (fr:=(0,0)) (by exact heap_alloc_new W5 _)) (fJ _)
      (by omega) (by unfold maxLen;omega) (by omega) (by simp;omega) (W5.heap.size+1) (by simp) ?_;intro gg cap2 w9 hown9 hgrow hat9 hlt9;obtain⟨hc9,hf9⟩:=HS5.behind (by(repeat (first|exact aA|refine Below.drew ?_|refine Below.alloc ?_ aC _))) hgrow))
  all_goals
   go_wp2_with fail
   go_end0
   exact⟨rfl,HS5.last hown9 (by(repeat (first|exact aA|refine Below.drew ?_|refine Below.alloc ?_ aC _))) hgrow⟩
 ·clear c0 c1 c2 c3 c4 hf hfb b0 b1 b2 b3 b4 b5 HS4 HTO
  obtain⟨c0,c1,c2,c3,c4,hf⟩:=HS5.lex.cells
  obtain⟨⟨b0,b1,b2,b3,b4,b5⟩,hfb⟩:=HS5.facts
  have htbl:=(ap HS5.tok).1
  have hbxl:=HS5.lex.lt
  obtain⟨i0,z0,hi0,hz0,hz1,hz2,hz3⟩:=iV
  have hBB:B<=W5.heap.size:=Nat.le_trans HS5.base (Nat.le_of_lt htbl)
  go_region_law
   ((refine step_append_lies _ (by rfl) _ _ _ (by rfl) B 139 i0 _ 6 48 underlying67 hi0 hz0 hz1 hz2 hz3 (by omega) (.slice A ts.length cap) ts.length (ts.flatMap bC) (by rfl) (HS5.row.later (by(repeat (first|exact aA|refine Below.drew ?_|refine Below.alloc ?_ aC _)))).own
      ⟨W5.heap.size,0,none⟩ 1 1 (bC ⟨t.kind,(ln:Int),t.n,t.s,false,false⟩) (by rfl) (by rfl) (World.news_of_block (cs:=(bC ⟨t.kind,(ln:Int),t.n,t.s,false,false⟩).toArray) (t:=139) (fr:=(0,0)) (by exact heap_alloc_new W5 _)) (fJ _)
      (by omega) (by unfold maxLen;omega) (by omega) (by simp;omega) (W5.heap.size+1) (by simp) ?_;intro gg cap2 w9 hown9 hgrow hat9 hlt9;obtain⟨hc9,hf9⟩:=HS5.behind (by(repeat (first|exact aA|refine Below.drew ?_|refine Below.alloc ?_ aC _))) hgrow))
  all_goals
   go_wp2_with fail
   go_end0
   exact⟨rfl,HS5.last hown9 (by(repeat (first|exact aA|refine Below.drew ?_|refine Below.alloc ?_ aC _))) hgrow⟩
 ·clear c0 c1 c2 c3 c4 hf hfb b0 b1 b2 b3 b4 b5 HS4 HTO
  obtain⟨c0,c1,c2,c3,c4,hf⟩:=HS5.lex.cells
  obtain⟨⟨b0,b1,b2,b3,b4,b5⟩,hfb⟩:=HS5.facts
  have htbl:=(ap HS5.tok).1
  have hbxl:=HS5.lex.lt
  obtain⟨i0,z0,hi0,hz0,hz1,hz2,hz3⟩:=iV
  have hBB:B<=W5.heap.size:=Nat.le_trans HS5.base (Nat.le_of_lt htbl)
  go_region_law
   ((refine step_append_lies _ (by rfl) _ _ _ (by rfl) B 139 i0 _ 6 48 underlying67 hi0 hz0 hz1 hz2 hz3 (by omega) (.slice A ts.length cap) ts.length (ts.flatMap bC) (by rfl) (HS5.row.later (by(repeat (first|exact aA|refine Below.drew ?_|refine Below.alloc ?_ aC _)))).own
      ⟨W5.heap.size,0,none⟩ 1 1 (bC ⟨t.kind,(ln:Int),t.n,t.s,ob,false⟩) (by rfl) (by rfl) (World.news_of_block (cs:=(bC ⟨t.kind,(ln:Int),t.n,t.s,ob,false⟩).toArray) (t:=139) (fr:=(0,0)) (by exact heap_alloc_new W5 _)) (fJ _)
      (by omega) (by unfold maxLen;omega) (by omega) (by simp;omega) (W5.heap.size+1) (by simp) ?_;intro gg cap2 w9 hown9 hgrow hat9 hlt9;obtain⟨hc9,hf9⟩:=HS5.behind (by(repeat (first|exact aA|refine Below.drew ?_|refine Below.alloc ?_ aC _))) hgrow))
  all_goals
   go_wp2_with fail
   go_end0
   exact⟨rfl,HS5.last hown9 (by(repeat (first|exact aA|refine Below.drew ?_|refine Below.alloc ?_ aC _))) hgrow⟩
end
section
open Go.RowKit Go.Maps
theorem su (w:World) (s:List UInt8) (A:Option Addr) (n c:Nat):Calls prog 9 #[af s,.slice A n c] w fun e w'=>e=.returned (aU ⟨4,0,s,A,n,c⟩)/\aE w w':=by
 go_enter func9,ntmps9
 go_wp2_with fail
 refine bodyPost_ret (v:=aU ⟨4,0,s,A,n,c⟩) (by simp[results,results9,go_sem,aU]) rfl ⟨rfl,?_⟩
 exact aB
def kh (w:World) (A:Option Addr) (l:List (Int×List UInt8)):Prop:=∀q x,l[q]?=some x->∃g off,A=some (ak g off)/\w.cell? (ak g (off+q*2))=some (ae x.1)/\w.cell? (ak g (off+q*2+1))=some (af x.2)
theorem kh.row {w:World} {B:Nat} {A:Option Addr} {n c:Nat} {l:List (Int×List UInt8)} (h:aS w B 31 2 kP (.slice A n c) l):kh w A l:=fun q x hx=>by
 obtain⟨g,cap,e1,-,-,-,hc⟩:=h.cells re (by rintro rfl;cases hx)
 injection e1 with e1
 refine⟨g,0,e1,?_,?_⟩
 ·rw[Nat.zero_add];exact(hc q x hx 0 _ rfl).1
 ·rw[Nat.zero_add];exact(hc q x hx 1 _ rfl).1
theorem ml (w:World) (A1 A2:Option Addr) (n c1 c2:Nat) (l:List (Int×List UInt8)) (h1:kh w A1 l) (h2:kh w A2 l) (hn:l.length=n) (hl:n<=100000):
 Calls prog 12 #[.slice A1 n c1,.slice A2 n c2] w fun e w'=>e=.returned (.bool true)/\aE w w':=by
 subst hn
 have HA1:=ad h1
 have HA2:=ad h2
 clear h1 h2
 go_enter func12,ntmps12
 go_wp2_with fail
 go_loopw [13] (fun i wr=>∃k nq:Nat,k<=l.length/\i=ae k/\wr=w.drewN nq) (fun i _=>l.length-(intOf i).toNat)
 case atStart=>exact⟨0,0,Nat.zero_le _,rfl,rfl⟩
 case round=>
  obtain⟨k,nq,hk,rfl,rfl⟩:=hrel
  by_cases hlt:k<l.length
  ·have hx:=au hlt
   generalize l[k]=x at hx
   obtain⟨b1,o1,e1,c0,c1⟩:=HA1.out k x hx
   obtain⟨b2,o2,e2,d0,d1⟩:=HA2.out k x hx
   have hlt':(k:Int)<(l.length:Int):=by omega
   clear hx
   subst e1 e2
   go_wp2_with fail
   go_quiet (fail)
   go_wp2
   go_roundw
   case rel=>exact⟨k+1,_,hlt,by go_num,rfl⟩
   case measure=>simp[intOf];omega
  ·have hkn:k=l.length:=by omega
   subst hkn
   go_wp2
   go_ret
   exact⟨rfl,rfl,rfl,rfl,aC,fun _ _=>rfl⟩
end
end Go.Proofs.YtigeofkllldilaaGreatDoor
