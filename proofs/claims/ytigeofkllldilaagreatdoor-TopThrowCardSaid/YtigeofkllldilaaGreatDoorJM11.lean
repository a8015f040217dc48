import Derived.Test.YtigeofkllldilaaGreatDoorJM03
import Derived.Test.YtigeofkllldilaaGreatDoorJM10
set_option maxHeartbeats 32000000
set_option maxRecDepth 100000
set_option linter.unusedSectionVars false
open Go.Proofs.Tryz
namespace Go.Proofs.YtigeofkllldilaaGreatDoor
section
open Go.RowKit Go.Maps
def pv (b:Nat):Value:=ah b
theorem DI:laidOutB prog=true:=by kernel_rfl
theorem C6:(233:TypeId)<prog.types.size:=of_decide_eq_true (by kernel_rfl)
theorem DP:(match prog.underlying 233 with|some (.array _ _)|some (.struct _)=>true|_=>false)=true:=by kernel_rfl
theorem EQ:WideMaps.KeyLaw prog 233:=deep_law_laid DI (m:=2) (by omega) C6 (by kernel_rfl) DP
theorem Ft:prog.keyType 233=true:=by kernel_rfl
theorem Ae:∃f g,prog.underlying 233=some (.struct #[f,g])/\f.type=9/\g.type=3/\f.offset=0/\g.offset=1/\(f.name != "_")=true/\(g.name != "_")=true:=⟨_,_,underlying233,rfl,rfl,rfl,rfl,by decide,by decide⟩
theorem uw:prog.cellsOf 233=2:=by kernel_rfl
theorem Cu:∃m,prog.types.size=m+1:=⟨prog.types.size-1,(Nat.succ_pred_eq_of_pos (Nat.lt_of_le_of_lt (Nat.zero_le _) C6)).symm⟩
theorem wu {a:Int} (h1:-9223372036854775808<=a) (h2:a<=9223372036854775807):(Lit.int .i64 a).wf=true:=by
 have e1:IntKind.i64.min= -9223372036854775808:=by decide
 have e2:IntKind.i64.max=9223372036854775807:=by decide
 simp only[Lit.wf,Bool.and_eq_true,e1,e2]
 exact⟨decide_eq_true h1,decide_eq_true h2⟩
theorem BZ (k:PK) (h:ez k):∃l,keyOf prog 233 (pk k)=some l:=by
 obtain⟨f,g,hu,f1,g1,f2,g2,f3,g3⟩:=Ae
 obtain⟨m,hm⟩:=Cu
 obtain⟨h3,⟨h1,h2⟩⟩:=h
 have hw:=wu h1 h2
 unfold keyOf
 simp only[hu]
 rw[if_pos (by simp[Ft,pk,Value.formed,hu,uw]),hm]
 refine⟨.string (keyBytes [.string k.1,.int .i64 k.2]),?_⟩
 unfold Program.keyLits
 simp only[hu,pk,Value.cells]
 rw[if_pos ⟨by rw[uw];rfl,by simp[f3,g3]⟩]
 simp only[List.mapM_cons,List.mapM_nil,f1,g1,f2,g2,oR,pm]
 simp[Program.keyLits,underlying3,underlying9,hw,ByteArray.size,h3]
theorem EZ:KE prog 233 pk ez:=⟨Keyed.of_law EQ,BZ,zB⟩
structure eO (w:World) (db mb:Nat) (time:Int) (es:List (PK×Nat)) (cv:Value):Prop where
 blk:w.heap[db]?=some (.cells #[ae time,.map (some mb),cv] 167 (0,0))
 map:aW w mb pk pv es
 ok:∀x∈es,ez x.1
theorem eO.ne {w:World} {db mb:Nat} {time:Int} {es:List (PK×Nat)} {cv:Value} (h:eO w db mb time es cv):db≠mb:=by
 rintro rfl
 obtain⟨es',clock,hb,_⟩:=h.map.blk
 rw[h.blk]at hb
 cases hb
theorem eO.keep {w w':World} {db mb:Nat} {time:Int} {es:List (PK×Nat)} {cv:Value} (h:eO w db mb time es cv) (h1:w'.heap[db]?=w.heap[db]?) (h2:w'.heap[mb]?=w.heap[mb]?):eO w' db mb time es cv:=⟨h1.trans h.blk,h.map.keep h2,h.ok⟩
theorem eO.lt {w:World} {db mb:Nat} {time:Int} {es:List (PK×Nat)} {cv:Value} (h:eO w db mb time es cv):db<w.heap.size:=(ap h.blk).1
theorem eO.later {w w':World} {db mb:Nat} {time:Int} {es:List (PK×Nat)} {cv:Value} (h:eO w db mb time es cv) (hb:aE w w'):eO w' db mb time es cv:=h.keep (hb.block _ h.lt) (hb.block _ h.map.lt)
theorem eO.cells {w:World} {db mb:Nat} {time:Int} {es:List (PK×Nat)} {cv:Value} (h:eO w db mb time es cv):
 w.cell? (ak db 0)=some (ae time)/\w.cell? (ak db 1)=some (.map (some mb))/\w.cell? (ak db 2)=some cv/\(∀o,w.frozen? ⟨db,o,none⟩=false):=dR h.blk
theorem i7 {u:World} {mb:Nat} {es:List (PK×Nat)} (h:aW u mb pk pv es) (hok:∀x∈es,ez x.1) (n:List UInt8) (a:Int) (hk:ez (n,a)):
 (Instr.lookup 164 (.map (some mb)) (.agg #[af n,ae a]) false).run prog u=.ok (((aP es (n,a)).map pv).getD (.pointer none)) u:=by
 have:=h.lookup (t:=164) EZ underlying164 (z:=.pointer none) (fun u=>by kernel_rfl) hok hk false
 rw[show pk (n,a)=.agg #[af n,ae a]from rfl]at this
 rw[this]
 rfl
theorem BW (w:World) (db mb pb:Nat) (time:Int) (es:List (PK×Nat)) (cv:Value) (h:eO w db mb time es cv) (n:List UInt8) (a:Int) (hk:ez (n,a)) (hg:aP es (n,a)=some pb):
 Calls prog 75 #[ah db,af n,ae a] w fun e w'=>e=.returned (ah pb)/\aE w w':=by
 obtain⟨c0,c1,c2,cf⟩:=h.cells
 have hl:=fun(u:World) (hb:aE w u)=>i7 (h.later hb).map h.ok n a hk
 simp only[hg,Option.map_some,Option.getD_some,pv]at hl
 have hl1:=hl ((w.alloc (.cells #[af n,ae a] 233)).drew) (aB.drew)
 have hdb:=h.lt
 clear hl hg hk h
 go_enter func75,ntmps75
 go_wp2_with fail
 go_region
 go_wp2_with fail
 go_ret
 exact⟨rfl,aB.drew⟩
def gd (w:World) (pb:Nat) (kind ver:Int) (ov:Value) (now:Int):Prop:=w.heap[pb]?=some (.cells #[ae kind,ae ver,ov,ae now] 180 (0,0))
theorem gd.cells {w:World} {pb:Nat} {kind ver:Int} {ov:Value} {now:Int} (h:gd w pb kind ver ov now):
 w.cell? (ak pb 0)=some (ae kind)/\w.cell? (ak pb 1)=some (ae ver)/\w.cell? (ak pb 2)=some ov/\w.cell? (ak pb 3)=some (ae now)/\(∀o,w.frozen? ⟨pb,o,none⟩=false):=ci h
theorem gd.lt {w:World} {pb:Nat} {kind ver:Int} {ov:Value} {now:Int} (h:gd w pb kind ver ov now):pb<w.heap.size:=(ap h).1
theorem gd.later {w w':World} {pb:Nat} {kind ver:Int} {ov:Value} {now:Int} (h:gd w pb kind ver ov now) (hb:aE w w'):gd w' pb kind ver ov now:=(hb.block _ h.lt).trans h
theorem C0 (w:World) (db mb:Nat) (time:Int) (es:List (PK×Nat)) (cv:Value) (h:eO w db mb time es cv) (n:List UInt8) (a:Int) (hk:ez (n,a)) (hg:aP es (n,a)=none):
 Calls prog 75 #[ah db,af n,ae a] w fun e w'=>∃pb,e=.returned (ah pb)/\w.heap.size<=pb/\eO w' db mb time (es++[((n,a),pb)]) cv/\gd w' pb 0 0 aj 0/\Fr (·=mb) w w':=by
 obtain⟨c0,c1,c2,cf⟩:=h.cells
 have hl:=fun(u:World) (hb:aE w u)=>i7 (h.later hb).map h.ok n a hk
 simp only[hg,Option.map_none,Option.getD_none]at hl
 have hl1:=hl ((w.alloc (.cells #[af n,ae a] 233)).drew) (aB.drew)
 have hmn:=fun(u:World)=>run_eql_map_nil (P:=prog) u 164 233 176 (some mb) underlying164
 have hdb:=h.lt
 have hbb:aE w ((((w.alloc (.cells #[af n,ae a] 233)).alloc (.cells #[ae 0,ae 0,aj,ae 0] 180)).drew).drew):=((aB.alloc (by simp) _).drew).drew
 obtain⟨w9,hup,hM,hG,-⟩:=aW.update (P:=prog) (t:=164) EZ underlying164 (h.later hbb).map h.ok (k:=(n,a)) hk (w.heap.size+1)
 rw[show pk (n,a)=.agg #[af n,ae a]from rfl,show pv (w.heap.size+1)=ah (w.heap.size+1)from rfl]at hup
 have hF:Fr (·=mb) w w9:=(Fr.of_below (·=mb) hbb).grown hG (fun k e=>.inl (Option.some.inj e).symm)
 have hpu:cL es (n,a) (w.heap.size+1)=es++[((n,a),w.heap.size+1)]:=by unfold cL;rw[hg];simp
 rw[hpu]at hM
 have hD:eO w9 db mb time (es++[((n,a),w.heap.size+1)]) cv:=⟨(hF.block _ h.lt (by simpa using h.ne)).trans h.blk,hM,fun x hx=>by
  rcases List.mem_append.1 hx with hx|hx
  ·exact h.ok x hx
  ·have:x=((n,a),w.heap.size+1):=by simpa using hx
   rw[this]
   exact hk⟩
 have hP:gd w9 (w.heap.size+1) 0 0 aj 0:=by
  unfold gd
  rw[hG.block _ (by simp) (fun e=>by have:=Option.some.inj e;have:=h.map.lt;omega)]
  have:=heap_alloc_new (w.alloc (.cells #[af n,ae a] 233)) (.cells #[ae 0,ae 0,aj,ae 0] 180)
  rw[show(w.alloc (.cells #[af n,ae a] 233)).heap.size=w.heap.size+1 by simp]at this
  exact this
 have HR:=ad (aD hD (aD hP hF))
 clear hl hg hk h hM hG hF hpu hD hP hbb
 go_enter func75,ntmps75
 go_wp2_with fail
 go_region
 go_wp2_with fail
 go_region
 go_wp2_with fail
 go_ret
 exact⟨_,rfl,by omega,HR.1,HR.2.1,HR.2.2⟩
theorem zR (w:World) (db mb:Nat) (time:Int) (es:List (PK×Nat)) (A:Option Addr) (N c:Nat) (h:eO w db mb time es (.slice A N c)) (hN:N<4096) (x y:TV) (ax ay:Option (Int×Int×List UInt8)) (hx:cX w x ax) (hy:cX w y ay)
 (hcx:dG (iu x ax)=0) (hcy:dG (iu y ay)=0) (hk:x.k=3\/x.k=4):
 Calls prog 74 #[ah db,aU x,aU y] w fun e w'=>e=.returned (ae 0)/\aE w w':=by
 have HCX:Hid (∀u,cX u x ax->Calls prog 26 #[.agg #[ae x.k,ae x.n,af x.s,.slice x.A x.len x.cap]] u fun e w'=>e=.returned (ae 0)/\aE u w'):=
  ad fun u h=>by rw[<-hcx];exact cY u x _ h.tm (by have:=h.noVar.2.1;omega) (by have:=h.noVar.2.2;omega)
 have HCY:Hid (∀u,cX u y ay->Calls prog 26 #[.agg #[ae y.k,ae y.n,af y.s,.slice y.A y.len y.cap]] u fun e w'=>e=.returned (ae 0)/\aE u w'):=
  ad fun u h=>by rw[<-hcy];exact cY u y _ h.tm (by have:=h.noVar.2.1;omega) (by have:=h.noVar.2.2;omega)
 have HSX:Hid (∀u,cX u x ax->Calls prog 146 #[.agg #[ae x.k,ae x.n,af x.s,.slice x.A x.len x.cap]] u fun e w'=>e=.returned (ae ((iu x ax).size:Nat))/\aE u w'):=
  ad fun u h=>qO u x _ h.tm (by have:=h.noVar.2.1;omega)
 have HSY:Hid (∀u,cX u y ay->Calls prog 146 #[.agg #[ae y.k,ae y.n,af y.s,.slice y.A y.len y.cap]] u fun e w'=>e=.returned (ae ((iu y ay).size:Nat))/\aE u w'):=
  ad fun u h=>qO u y _ h.tm (by have:=h.noVar.2.1;omega)
 have hzx:=hx.noVar.2.1
 have hzy:=hy.noVar.2.1
 generalize (iu x ax).size=zx at*
 generalize (iu y ay).size=zy at*
 obtain⟨W0,hW0⟩:∃W0,eH w [.cells (aJ x).toArray 27,.cells (aJ y).toArray 27]=W0:=⟨_,rfl⟩
 have hb0:aE w W0:=by rw[<-hW0];exact dW _ _
 have h0:W0.heap[w.heap.size]?=some (.cells (aJ x).toArray 27 (0,0)):=by rw[<-hW0];exact cg w _ 0 _ rfl
 have h1:W0.heap[w.heap.size+1]?=some (.cells (aJ y).toArray 27 (0,0)):=by rw[<-hW0];exact cg w _ 1 _ rfl
 have HF:=ad (kD h0 h1)
 have HX:=ad (hx.later hb0)
 have HY:=ad (hy.later hb0)
 have HD:=ad (h.later hb0)
 have HB0:=ad hb0
 have HW0:=ad hW0
 have HK:=ad hk
 have hwr:IntKind.i64.wrap ((zx:Int)+(zy:Int))=(zx:Int)+(zy:Int):=IntWalk.i64_in _ (by omega)
 have hgt:decide (20000<(zx:Int)+(zy:Int))=false:=decide_eq_false (by omega)
 have hgt':¬(20000<(zx:Int)+(zy:Int)):=by omega
 have hN':(N:Int)<4096:=by omega
 clear hx hy hb0 h0 h1 hW0 hcx hcy h hk hzx hzy
 rw[aN,aN]
 go_enter func74,ntmps74
 obtain⟨b0,b1,b2,b3,b4,b5,b6,b7⟩:=HF.out
 go_wp2_with fail
 change Calls _ _ _ (eH w [.cells (aJ x).toArray 27,.cells (aJ y).toArray 27]) _
 rw[HW0.out]
 clear HW0
 refine(HCX.out _ HX.out).mono ?_
 rintro e u1 ⟨rfl,hb1⟩
 obtain⟨b0,b1,b2,b3,b4,b5,b6,b7⟩:=bQ HF.out hb1
 go_wp2_with fail
 refine(HCY.out _ (HY.later hb1)).mono ?_
 rintro e u2 ⟨rfl,hb2⟩
 have HB2:=ad (hb1.trans (hb2.mono hb1.size))
 have HF2:=ad (bQ HF.out HB2.out)
 have HX2:=ad (HX.later HB2.out)
 have HY2:=ad (HY.later HB2.out)
 have HD2:=ad (HD.later HB2.out)
 clear b0 b1 b2 b3 b4 b5 b6 b7 hb1 hb2 HX HY HD HF
 go_wp2_with fail
 go_region_held3 (fun u=>u.cell? (ak w.heap.size 0)=some (ae x.k)/\u.cell? (ak w.heap.size 1)=some (ae x.n)/\u.cell? (ak w.heap.size 2)=some (af x.s)/\u.cell? (ak w.heap.size 3)=some (.slice x.A x.len x.cap)∧
  u.cell? (ak (w.heap.size+1) 0)=some (ae y.k)/\u.cell? (ak (w.heap.size+1) 1)=some (ae y.n)/\u.cell? (ak (w.heap.size+1) 2)=some (af y.s)/\u.cell? (ak (w.heap.size+1) 3)=some (.slice y.A y.len y.cap))
  (first|(with_reducible exact dB HF2.out)|(with_reducible exact HF2.out)|(with_reducible exact bQ (dB HF2.out) hb3)|(with_reducible exact bQ (bQ (dB HF2.out) hb3) hb4))
  (first|(go_at_call 146;with_reducible refine(HSX.out _ (HX2.out.later aA.drew)).mono ?_;rintro e u3 ⟨rfl,hb3⟩)|(go_at_call 146;with_reducible refine(HSY.out u3 ((HY2.out.later aA.drew).later hb3)).mono ?_;rintro e u4 ⟨rfl,hb4⟩))
 have HB4:=ad (HB2.trans (((Below.refl u2.heap.size u2).drew.trans (hb3.trans (hb4.mono hb3.size))).mono HB2.size))
 obtain⟨b0,b1,b2,b3,b4,b5,b6,b7⟩:=bQ (bQ (dB HF2.out) hb3) hb4
 have HD4:=ad (((HD2.later aA.drew).later hb3).later hb4)
 obtain⟨c0,c1,c2,cf⟩:=HD4.cells
 clear hb3 hb4
 rcases HK.out with hk|hk
 all_goals
  rw[hk]at b0
  go_wp2_with fail
  go_ret
  exact⟨rfl,HB0.trans (HB4.mono HB0.size)⟩
structure im where
 head:TV
 body:TV
 birth:Int
 death:Int
def fa (c:im):List Value:=aJ c.head++aJ c.body++[ae c.birth,ae c.death]
theorem oL (c:im):(fa c).length=10:=rfl
theorem wX (c:im):∀u∈fa c,u.oneCell'=true:=by
 intro u hu
 simp[fa,aJ]at hu
 rcases hu with rfl|rfl|rfl|rfl|rfl|rfl|rfl|rfl|rfl|rfl<;>rfl
theorem Cy:∃i z,prog.info? 184=some i/\i.zero=some z/\i.size=10/\i.bytes=128/\z.cells.size=10:=by
 refine⟨_,_,rfl,rfl,?_,?_,?_⟩<;>kernel_rfl
theorem aX {u:World} {a b:Nat} {c1 c2:Array Value} {t1 t2:TypeId} {f1 f2:Nat×Nat} (h1:u.heap[a]?=some (.cells c1 t1 f1)) (h2:u.heap[b]?=some (.cells c2 t2 f2)) (ht:t1≠t2):a≠b:=by
 rintro rfl
 rw[h1]at h2
 injection h2 with h2
 injection h2 with _ h3
 exact ht h3
theorem eS {u:World} {a mb:Nat} {c1:Array Value} {t1:TypeId} {f1:Nat×Nat} {es:List (PK×Nat)} (h1:u.heap[a]?=some (.cells c1 t1 f1)) (h2:aW u mb pk pv es):a≠mb:=by
 rintro rfl
 obtain⟨es',clock,hb,_⟩:=h2.blk
 rw[h1]at hb
 cases hb
theorem aS.block {α:Type} {u:World} {B sz g:Nat} {e:TypeId} {enc:α->List Value} {v:Value} {l:List α} (h:aS u B e sz enc v l) (hg:v.ownBlock=some g):B<=g/\∃cur,u.heap[g]?=some (.cells cur e (0,0)):=by
 rcases h.own.2 with⟨rfl,_⟩|⟨g',cap,cur,rfl,hb,hgg,_⟩
 ·cases hg
 ·have:g'=g:=by simpa[Value.ownBlock]using hg
  subst this
  exact⟨hb,cur,hgg⟩
structure be (w:World) (S:Nat->Prop) (B db mb pb bx bz:Nat) (time:Int) (es:List (PK×Nat)) (cv:Value) (cls:List im) (kind ver:Int) (ov:Value) (ord:List Int) (x y:TV) (u:World):Prop where
 db':eO u db mb time es cv
 pr:gd u pb kind ver ov 0
 cl:aS u B 184 10 fa cv cls
 od:aS u B 3 1 eB ov ord
 hx:u.heap[bx]?=some (.cells (aJ x).toArray 27 (0,0))
 hz:u.heap[bz]?=some (.cells (aJ y).toArray 27 (0,0))
 xz:bx≠bz
 fr:Fr S w u
 scv:∀g,cv.ownBlock=some g->S g\/w.heap.size<=g
 sov:∀g,ov.ownBlock=some g->S g\/w.heap.size<=g
 sdb:S db
 smb:S mb
 spb:S pb\/w.heap.size<=pb
 sbx:w.heap.size<=bx
 sbz:w.heap.size<=bz
section
variable {w u u':World} {S:Nat->Prop} {B db mb pb bx bz:Nat} {time:Int} {es:List (PK×Nat)} {cv:Value} {cls:List im} {kind ver:Int} {ov:Value} {ord:List Int} {x y:TV}
theorem be.later (h:be w S B db mb pb bx bz time es cv cls kind ver ov ord x y u) (hb:aE u u'):be w S B db mb pb bx bz time es cv cls kind ver ov ord x y u':=
 ⟨h.db'.later hb,h.pr.later hb,h.cl.later hb,h.od.later hb,(hb.block _ (ap h.hx).1).trans h.hx,(hb.block _ (ap h.hz).1).trans h.hz,h.xz,h.fr.step hb,h.scv,h.sov,h.sdb,h.smb,h.spb,h.sbx,h.sbz⟩
theorem be.flat (h:be w S B db mb pb bx bz time es cv cls kind ver ov ord x y u):l7 bx bz x y u:=kD h.hx h.hz
theorem be.dp (h:be w S B db mb pb bx bz time es cv cls kind ver ov ord x y u):db≠pb:=aX h.db'.blk h.pr (by decide)
theorem be.setDb (h:be w S B db mb pb bx bz time es cv cls kind ver ov ord x y u) (t':Int):be w S B db mb pb bx bz t' es cv cls kind ver ov ord x y (u.setCell (ak db 0) (ae t')):=by
 have k:∀c,c≠db->(u.setCell (ak db 0) (ae t')).heap[c]?=u.heap[c]?:=fun c hc=>Deep.blk_setCell_other _ _ _ _ hc
 refine⟨⟨aK h.db'.blk _,h.db'.map.keep (k _ (eS h.db'.blk h.db'.map).symm),h.db'.ok⟩,(k _ h.dp.symm).trans h.pr,h.cl.keep fun g hg=>k _ ?_,h.od.keep fun g hg=>k _ ?_,
  (k _ (aX h.hx h.db'.blk (by decide))).trans h.hx,(k _ (aX h.hz h.db'.blk (by decide))).trans h.hz,h.xz,h.fr.setCell (.inl h.sdb) _,h.scv,h.sov,h.sdb,h.smb,h.spb,h.sbx,h.sbz⟩
 ·obtain⟨_,cur,hc⟩:=h.cl.block hg
  exact aX hc h.db'.blk (by decide)
 ·obtain⟨_,cur,hc⟩:=h.od.block hg
  exact aX hc h.db'.blk (by decide)
theorem be.setPr (h:be w S B db mb pb bx bz time es cv cls kind ver ov ord x y u) (i:Nat) (v:Value) {kind' ver':Int} (he:(#[ae kind,ae ver,ov,ae 0]:Array Value).setIfInBounds i v=#[ae kind',ae ver',ov,ae 0]):
 be w S B db mb pb bx bz time es cv cls kind' ver' ov ord x y (u.setCell (ak pb i) v):=by
 have k:∀c,c≠pb->(u.setCell (ak pb i) v).heap[c]?=u.heap[c]?:=fun c hc=>Deep.blk_setCell_other _ _ _ _ hc
 have hp:gd (u.setCell (ak pb i) v) pb kind' ver' ov 0:=by
  have:=aK (i:=i) h.pr v
  rw[he]at this
  exact this
 refine⟨⟨(k _ h.dp).trans h.db'.blk,h.db'.map.keep (k _ (eS h.pr h.db'.map).symm),h.db'.ok⟩,hp,h.cl.keep fun g hg=>k _ ?_,h.od.keep fun g hg=>k _ ?_,
  (k _ (aX h.hx h.pr (by decide))).trans h.hx,(k _ (aX h.hz h.pr (by decide))).trans h.hz,h.xz,h.fr.setCell h.spb _,h.scv,h.sov,h.sdb,h.smb,h.spb,h.sbx,h.sbz⟩
 ·obtain⟨_,cur,hc⟩:=h.cl.block hg
  exact aX hc h.pr (by decide)
 ·obtain⟨_,cur,hc⟩:=h.od.block hg
  exact aX hc h.pr (by decide)
theorem be.setX (h:be w S B db mb pb bx bz time es cv cls kind ver ov ord x y u) (x':TV):
 be w S B db mb pb bx bz time es cv cls kind ver ov ord x' y ((((u.setCell (ak bx 0) (ae x'.k)).setCell (ak bx 1) (ae x'.n)).setCell (ak bx 2) (af x'.s)).setCell (ak bx 3) (.slice x'.A x'.len x'.cap)):=by
 have k:∀c,c≠bx->((((u.setCell (ak bx 0) (ae x'.k)).setCell (ak bx 1) (ae x'.n)).setCell (ak bx 2) (af x'.s)).setCell (ak bx 3) (.slice x'.A x'.len x'.cap)).heap[c]?=u.heap[c]?:=fun c hc=>by
  rw[Deep.blk_setCell_other _ _ _ _ hc,Deep.blk_setCell_other _ _ _ _ hc,Deep.blk_setCell_other _ _ _ _ hc,Deep.blk_setCell_other _ _ _ _ hc]
 refine⟨⟨(k _ (aX h.db'.blk h.hx (by decide))).trans h.db'.blk,h.db'.map.keep (k _ (eS h.hx h.db'.map).symm),h.db'.ok⟩,(k _ (aX h.pr h.hx (by decide))).trans h.pr,h.cl.keep fun g hg=>k _ ?_,h.od.keep fun g hg=>k _ ?_,
  aK (aK (aK (aK h.hx _) _) _) _,(k _ h.xz.symm).trans h.hz,h.xz,(((h.fr.setCell (.inr h.sbx) _).setCell (.inr h.sbx) _).setCell (.inr h.sbx) _).setCell (.inr h.sbx) _,h.scv,h.sov,h.sdb,h.smb,h.spb,h.sbx,h.sbz⟩
 ·obtain⟨_,cur,hc⟩:=h.cl.block hg
  exact aX hc h.hx (by decide)
 ·obtain⟨_,cur,hc⟩:=h.od.block hg
  exact aX hc h.hx (by decide)
theorem be.setY (h:be w S B db mb pb bx bz time es cv cls kind ver ov ord x y u) (y':TV):
 be w S B db mb pb bx bz time es cv cls kind ver ov ord x y' ((((u.setCell (ak bz 0) (ae y'.k)).setCell (ak bz 1) (ae y'.n)).setCell (ak bz 2) (af y'.s)).setCell (ak bz 3) (.slice y'.A y'.len y'.cap)):=by
 have k:∀c,c≠bz->((((u.setCell (ak bz 0) (ae y'.k)).setCell (ak bz 1) (ae y'.n)).setCell (ak bz 2) (af y'.s)).setCell (ak bz 3) (.slice y'.A y'.len y'.cap)).heap[c]?=u.heap[c]?:=fun c hc=>by
  rw[Deep.blk_setCell_other _ _ _ _ hc,Deep.blk_setCell_other _ _ _ _ hc,Deep.blk_setCell_other _ _ _ _ hc,Deep.blk_setCell_other _ _ _ _ hc]
 refine⟨⟨(k _ (aX h.db'.blk h.hz (by decide))).trans h.db'.blk,h.db'.map.keep (k _ (eS h.hz h.db'.map).symm),h.db'.ok⟩,(k _ (aX h.pr h.hz (by decide))).trans h.pr,h.cl.keep fun g hg=>k _ ?_,h.od.keep fun g hg=>k _ ?_,
  (k _ h.xz).trans h.hx,aK (aK (aK (aK h.hz _) _) _) _,h.xz,(((h.fr.setCell (.inr h.sbz) _).setCell (.inr h.sbz) _).setCell (.inr h.sbz) _).setCell (.inr h.sbz) _,h.scv,h.sov,h.sdb,h.smb,h.spb,h.sbx,h.sbz⟩
 ·obtain⟨_,cur,hc⟩:=h.cl.block hg
  exact aX hc h.hz (by decide)
 ·obtain⟨_,cur,hc⟩:=h.od.block hg
  exact aX hc h.hz (by decide)
theorem be.setCl {w9:World} {cv':Value} {c:im} (h:be w S B db mb pb bx bz time es cv cls kind ver ov ord x y u) (hr:aS w9 B 184 10 fa cv' (cls++[c])) (hg:u.grownBy w9 cv.ownBlock) (ho:cv'.ownBlock=cv.ownBlock\/∃g,cv'.ownBlock=some g/\u.heap.size<=g):
 (w9.cell? (ak db 2)=some cv/\w9.frozen? ⟨db,2,none⟩=false)/\be w S B db mb pb bx bz time es cv' (cls++[c]) kind ver ov ord x y (w9.setCell (ak db 2) cv'):=by
 have hcb:∀(d:Nat) (cs:Array Value) (t:TypeId),u.heap[d]?=some (.cells cs t (0,0))->t≠184->w9.heap[d]?=u.heap[d]?:=fun d cs t hd ht=>hg.block d (ap hd).1 (fun e=>by
  obtain⟨_,cur,hc⟩:=h.cl.block e.symm
  exact aX hd hc ht rfl)
 have hb:=(hcb db _ _ h.db'.blk (by decide)).trans h.db'.blk
 have hmbl:w9.heap[mb]?=u.heap[mb]?:=hg.block mb h.db'.map.lt (fun e=>by
  obtain⟨_,cur,hc⟩:=h.cl.block e.symm
  exact eS hc h.db'.map rfl)
 have hm9:=h.db'.map.keep hmbl
 have hp9:gd w9 pb kind ver ov 0:=(hcb pb _ _ h.pr (by decide)).trans h.pr
 have hx9:=(hcb bx _ _ h.hx (by decide)).trans h.hx
 have hz9:=(hcb bz _ _ h.hz (by decide)).trans h.hz
 have ho9:aS w9 B 3 1 eB ov ord:=h.od.keep fun g hg'=>by
  obtain⟨_,cur,hc⟩:=h.od.block hg'
  exact hcb g _ _ hc (by decide)
 have hf9:Fr S w w9:=h.fr.grown hg h.scv
 have k:∀d,d≠db->(w9.setCell (ak db 2) cv').heap[d]?=w9.heap[d]?:=fun d hd=>Deep.blk_setCell_other _ _ _ _ hd
 obtain⟨_,_,c2,cf⟩:=dR hb
 refine⟨⟨c2,cf 2⟩,⟨aK hb _,hm9.keep (k _ (eS hb hm9).symm),h.db'.ok⟩,(k _ (aX hp9 hb (by decide))).trans hp9,hr.keep fun g hg'=>k _ ?_,ho9.keep fun g hg'=>k _ ?_,
  (k _ (aX hx9 hb (by decide))).trans hx9,(k _ (aX hz9 hb (by decide))).trans hz9,h.xz,hf9.setCell (.inl h.sdb) _,?_,h.sov,h.sdb,h.smb,h.spb,h.sbx,h.sbz⟩
 ·obtain⟨_,cur,hc⟩:=hr.block hg'
  exact aX hc hb (by decide)
 ·obtain⟨_,cur,hc⟩:=ho9.block hg'
  exact aX hc hb (by decide)
 ·intro g hg'
  rcases ho with h1|⟨g2,h1,h2⟩
  ·exact h.scv g (by rw[<-h1];exact hg')
  ·right
   have:g=g2:=by rw[h1]at hg';exact(Option.some.inj hg').symm
   have:=h.fr.size
   omega
theorem be.setOd {w9:World} {ov':Value} {ord':List Int} (h:be w S B db mb pb bx bz time es cv cls kind ver ov ord x y u) (hr:aS w9 B 3 1 eB ov' ord') (hF:Fr (fun k=>ov.ownBlock=some k) u w9) (ho:ov'.ownBlock=ov.ownBlock\/∃g,ov'.ownBlock=some g/\u.heap.size<=g):
 (w9.cell? (ak pb 2)=some ov/\w9.frozen? ⟨pb,2,none⟩=false)/\be w S B db mb pb bx bz time es cv cls kind ver ov' ord' x y (w9.setCell (ak pb 2) ov'):=by
 have hcb:∀(d:Nat) (cs:Array Value) (t:TypeId),u.heap[d]?=some (.cells cs t (0,0))->t≠3->w9.heap[d]?=u.heap[d]?:=fun d cs t hd ht=>hF.block d (ap hd).1 (fun e=>by
  obtain⟨_,cur,hc⟩:=h.od.block e
  exact aX hd hc ht rfl)
 have hb:=(hcb db _ _ h.db'.blk (by decide)).trans h.db'.blk
 have hmbl:w9.heap[mb]?=u.heap[mb]?:=hF.block mb h.db'.map.lt (fun e=>by
  obtain⟨_,cur,hc⟩:=h.od.block e
  exact eS hc h.db'.map rfl)
 have hm9:=h.db'.map.keep hmbl
 have hp9:gd w9 pb kind ver ov 0:=(hcb pb _ _ h.pr (by decide)).trans h.pr
 have hx9:=(hcb bx _ _ h.hx (by decide)).trans h.hx
 have hz9:=(hcb bz _ _ h.hz (by decide)).trans h.hz
 have hc9:aS w9 B 184 10 fa cv cls:=h.cl.keep fun g hg'=>by
  obtain⟨_,cur,hc⟩:=h.cl.block hg'
  exact hcb g _ _ hc (by decide)
 have hf9:Fr S w w9:=⟨hF.os.trans h.fr.os,hF.tape.trans h.fr.tape,hF.output.trans h.fr.output,Nat.le_trans h.fr.size hF.size,fun i hi hn=>(hF.block i (Nat.lt_of_lt_of_le hi h.fr.size) (fun e=>(h.sov i e).elim hn (fun h'=>by omega))).trans (h.fr.block i hi hn)⟩
 have k:∀d,d≠pb->(w9.setCell (ak pb 2) ov').heap[d]?=w9.heap[d]?:=fun d hd=>Deep.blk_setCell_other _ _ _ _ hd
 obtain⟨_,_,c2,_,cf⟩:=ci hp9
 refine⟨⟨c2,cf 2⟩,⟨(k _ (aX hb hp9 (by decide))).trans hb,hm9.keep (k _ (eS hp9 hm9).symm),h.db'.ok⟩,aK hp9 _,hc9.keep fun g hg'=>k _ ?_,hr.keep fun g hg'=>k _ ?_,
  (k _ (aX hx9 hp9 (by decide))).trans hx9,(k _ (aX hz9 hp9 (by decide))).trans hz9,h.xz,hf9.setCell h.spb _,h.scv,?_,h.sdb,h.smb,h.spb,h.sbx,h.sbz⟩
 ·obtain⟨_,cur,hc⟩:=hc9.block hg'
  exact aX hc hp9 (by decide)
 ·obtain⟨_,cur,hc⟩:=hr.block hg'
  exact aX hc hp9 (by decide)
 ·intro g hg'
  rcases ho with h1|⟨g2,h1,h2⟩
  ·exact h.sov g (by rw[<-h1];exact hg')
  ·right
   have:g=g2:=by rw[h1]at hg';exact(Option.some.inj hg').symm
   have:=h.fr.size
   omega
end
end
end Go.Proofs.YtigeofkllldilaaGreatDoor
