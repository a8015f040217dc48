import Derived.Test.YtigeofkllldilaaGreatDoorJM02
import Derived.Test.YtigeofkllldilaaGreatDoorJM15
import Derived.Test.YtigeofkllldilaaGreatDoorJM06
import Derived.Test.YtigeofkllldilaaGreatDoorJM08
set_option maxHeartbeats 32000000
set_option maxRecDepth 100000
set_option linter.unusedSectionVars false
open Go.Proofs.Tryz
namespace Go.Proofs.YtigeofkllldilaaGreatDoor
section
section
variable {κ ν:Type} [DecidableEq κ]
theorem m8 (k:κ):aP ([]:List (κ×ν)) k=none:=rfl
theorem fs (y:κ×ν) (r:List (κ×ν)) (k:κ):aP (y::r) k=if y.1=k then some y.2 else aP r k:=by
 unfold aP
 rw[List.find?_cons]
 by_cases e:y.1=k<;>simp[e]
theorem lF (l r:List (κ×ν)) (k:κ):aP (l++r) k=(aP l k).or (aP r k):=by
 unfold aP
 rw[List.find?_append]
 cases l.find? (fun x=>decide (x.1=k))<;>simp
theorem kw (l:List (κ×ν)) (k k':κ) (v:ν):aP (l.map (fun x=>if x.1=k then(k,v)else x)) k'=if k'=k then(aP l k).map (fun _=>v)else aP l k':=by
 induction l with
 |nil=>by_cases e:k'=k<;>simp[m8,e]
 |cons y r ih=>
  rw[List.map_cons,fs,ih,fs,fs]
  by_cases e:y.1=k
  ·by_cases e2:k'=k
   ·subst e2;simp[e]
   ·have e3:¬k=k':=fun h=>e2 h.symm
    simp[e,e2,e3]
  ·by_cases e2:k'=k
   ·subst e2;simp[e]
   ·simp[e,e2]
theorem my (l:List (κ×ν)) (k:κ) (v:ν):aP (cL l k v) k=some v:=by
 unfold cL
 split
 ·rename_i h
  rw[kw,if_pos rfl]
  obtain⟨x,hx⟩:=Option.isSome_iff_exists.1 h
  rw[hx]
  rfl
 ·rename_i h
  have hn:aP l k=none:=by simpa using h
  rw[lF,hn,fs]
  simp
theorem io (l:List (κ×ν)) (k k':κ) (v:ν) (h:k'≠k):aP (cL l k v) k'=aP l k':=by
 unfold cL
 split
 ·rw[kw,if_neg h]
 ·have:¬k=k':=fun e=>h e.symm
  rw[lF,fs,m8,if_neg this]
  simp
end
end
section
open Go.RowKit Go.Maps
def kp (n:Int):Value:=ae n
structure dS (u:World) (b:Nat) (l:List (List UInt8×Int)):Prop where
 map:aW u b Fj kp l
 ok:∀x∈l,DR x.1
theorem wg {u:World} {b:Nat} {l:List (List UInt8×Int)} (h:dS u b l) (k:List UInt8) (hk:DR k):
 (Instr.lookup 144 (.map (some b)) (af k) true).run prog u=.ok (.tuple #[ae ((aP l k).getD 0),.bool (aP l k).isSome]) u:=by
 have:=h.map.lookup (t:=144) Dh underlying144 (z:=ae 0) (fun u=>by kernel_rfl) h.ok (k:=k) hk true
 simp only[if_true]at this
 rw[show((aP l k).map kp).getD (ae 0)=ae ((aP l k).getD 0)by cases aP l k<;>rfl]at this
 exact this
theorem AL {u:World} {b:Nat} {l:List (List UInt8×Int)} (h:dS u b l) (k:List UInt8) (hk:DR k) (n:Int) (hn:aP l k=none):
 ∃w',(Instr.mapUpdate 144 (.map (some b)) (af k) (ae n)).run prog u=.ok () w'/\dS w' b (l++[(k,n)])/\u.grownBy w' (some b)/\w'.heap.size=u.heap.size:=by
 obtain⟨w',h1,h2,h3,h4⟩:=aW.update (P:=prog) (t:=144) Dh underlying144 h.map h.ok (k:=k) hk n
 have hp:cL l k n=l++[(k,n)]:=by simp[cL,hn]
 rw[hp]at h2
 refine⟨w',h1,⟨h2,fun x hx=>?_⟩,h3,h4⟩
 rcases List.mem_append.1 hx with hx|hx
 ·exact h.ok x hx
 ·simp only[List.mem_singleton]at hx
  subst hx
  exact hk
open Go.RowKit
theorem ia {W W' w9:World} {rb:Nat} {v:jr} {ts:List dq} {s:cI} {B:Nat} {row:Option Nat} (h:bU W rb v ts s B) (hb:aE W W') (hg:W'.grownBy w9 row) (hrow:∀k,row=some k->k≠rb/\B<=k):bU w9 rb v ts s B:=
 (h.later hb).keep (hg.block rb (Nat.lt_of_lt_of_le h.blk.lt hb.size) (fun e=>(hrow rb e.symm).1 rfl)) fun k hk=>hg.block k (by have:=h.blk.lt;have:=h.base;have:=hb.size;omega) fun e=>by
   have:=(hrow k e.symm).2
   omega
def lW (x:List UInt8×Int):List Value:=[af x.1,ae x.2]
theorem yP (x:List UInt8×Int):∀u∈lW x,u.oneCell'=true:=by
 intro u hu
 simp only[lW,List.mem_cons,List.mem_nil_iff,or_false]at hu
 rcases hu with rfl|rfl<;>rfl
theorem vV:∃i z,prog.info? 39=some i/\i.zero=some z/\i.size=2/\i.bytes=24/\z.cells.size=2:=by
 refine⟨_,_,rfl,rfl,?_,?_,?_⟩<;>kernel_rfl
abbrev kU (u:World) (rb:Nat) (nv:Value) (l:List (List UInt8×Int)):Prop:=aS u (rb+1) 39 2 lW nv l
theorem tG {W W' w9:World} {mb:Nat} {l:List (List UInt8×Int)} {row:Option Nat} (h:dS W mb l) (hb:aE W W') (hg:W'.grownBy w9 row) (hne:row≠some mb):dS w9 mb l:=
 ⟨h.map.keep ((hg.block mb (Nat.lt_of_lt_of_le h.map.lt hb.size) (fun e=>hne e.symm)).trans (hb.block _ h.map.lt)),h.ok⟩
theorem Bg {S:Nat->Prop} {u W W' w9:World} {row:Option Nat} (h:Fr S u W) (hb:aE W W') (hg:W'.grownBy w9 row) (hr:∀g,row=some g->S g):Fr S u w9:=(h.step hb).grown hg fun g e=>.inl (hr g e)
theorem vW (u:World) (rb:Nat) (v:jr) (ts:List dq) (s:cI) (B:Nat) (h:bU u rb v ts s B) (t:dq) (hat:s.at'<ts.length) (mb:Nat) (hvb:v.vb=.map (some mb)) (hv:dS u mb s.vars) (hmb:mb≠rb) (hmB:B<=mb) (hok:DR t.s) (hts:t.s≠[95]) (hn:aP s.vars t.s=none) (hc0:0<=s.cnt) (hc1:s.cnt<=1000000) (hnm:kU u rb v.nv s.names) (hnl:s.names.length<=100000) (hnb:v.nv.ownBlock≠some mb):
 Calls prog 56 #[ah rb,jm t] u fun e u'=>e=am/\∃nv',bU u' rb {v with nv:=nv',x:=⟨1,s.cnt,[],none,0,0⟩} ts (({s.go 1 with cnt:=s.cnt+1,vars:=s.vars++[(t.s,s.cnt)],names:=s.names++[(t.s,s.cnt)]} :cI).done (jk s.cnt) 0) B/\kU u' rb nv' (s.names++[(t.s,s.cnt)])/\dS u' mb (s.vars++[(t.s,s.cnt)])/\Fr (fun k=>k=rb\/k=mb\/v.nv.ownBlock=some k) u u':=by
 have b95:(t.s==[95])=false:=beq_eq_false_iff_ne.2 hts
 have hwc:IntKind.i64.wrap (s.cnt+1)=s.cnt+1:=IntWalk.i64_in _ (by omega)
 have HA:=ad h
 have hf:=h.few
 have hlt:=h.blk.lt
 have c1:u.cell? (ak rb 1)=some (ae (s.at':Int)):=h.blk.cell (i:=1) rfl
 have cf:=h.blk.free
 have hwr:IntKind.i64.wrap ((s.at':Int)+1)=(s.at':Int)+1:=IntWalk.i64_in _ (by omega)
 obtain⟨W,hW⟩:∃W,W=(u.setCell (ak rb 1) (ae ((s.at':Int)+1))).alloc (.cells #[ae t.kind,ae t.line,ae t.n,af t.s,.bool t.opn,.bool t.tight] 139):=⟨_,rfl⟩
 have hgo:bU W rb v ts (s.go 1) B:=by
  rw[hW]
  exact(h.put (v':=v) (s':=s.go 1) 1 _ (by simp[bT,cI.go]) rfl rfl (by show s.at'+1<=_;omega)).later aB
 have HG:=ad hgo
 have HF:Hid (Fr (·=rb) u W):=by
  rw[hW]
  exact ad (((Fr.refl (·=rb) u).setCell (p:=(ak rb 1)) (.inl rfl) _).alloc _)
 have hnew:W.heap[u.heap.size]?=some (.cells #[ae t.kind,ae t.line,ae t.n,af t.s,.bool t.opn,.bool t.tight] 139 (0,0)):=by
  rw[hW]
  have:=heap_alloc_new (u.setCell (ak rb 1) (ae ((s.at':Int)+1))) (.cells #[ae t.kind,ae t.line,ae t.n,af t.s,.bool t.opn,.bool t.tight] 139)
  simpa using this
 obtain⟨n0,n1,n2,n3,n4,n5,nf⟩:=iT hnew
 have hvW:dS W mb s.vars:=⟨hv.map.keep (HF.block mb hv.map.lt (by omega)),hv.ok⟩
 have hlk:=wg (u:=W.drew) (b:=mb) (l:=s.vars) ⟨hvW.map.drew,hv.ok⟩ t.s hok
 rw[hn]at hlk
 simp only[Option.getD_none,Option.isSome_none]at hlk
 have hvU:dS (W.setCell (ak rb 14) (ae (s.cnt+1))).drew.drew mb s.vars:=⟨((hvW.map.setCell (p:=(ak rb 14)) (by simp;omega) _).drew).drew,hv.ok⟩
 obtain⟨w9,hup,hV9,hG9,hs9⟩:=AL hvU t.s hok s.cnt hn
 have d14:W.cell? (ak rb 14)=some (ae s.cnt):=HG.blk.cell (i:=14) rfl
 have df:=HG.blk.free
 have d9:W.cell? (ak rb 12)=some (.map (some mb)):=(HG.blk.cell (i:=12) rfl).trans (congrArg some hvb)
 have hW9:aE W (W.setCell (ak rb 14) (ae (s.cnt+1))).drew.drew->True:=fun _=>trivial
 have h14:bU (W.setCell (ak rb 14) (ae (s.cnt+1))).drew.drew rb v ts {s.go 1 with cnt:=s.cnt+1} B:=(HG.put (v':=v) (s':= {s.go 1 with cnt:=s.cnt+1}) 14 (ae (s.cnt+1)) (by simp[bT,cI.go]) rfl rfl HG.in').later (aA.drew.drew)
 have h9:=ia h14 aA hG9 (fun k hk=>by cases hk;exact⟨hmb,hmB⟩)
 have H9:=ad h9
 have hF9:Fr (fun k=>k=rb\/k=mb) u w9:=(((HF.setCell (p:=(ak rb 14)) (.inl rfl) (ae (s.cnt+1))).drew.drew.weak fun k hk=>.inl hk).grown hG9 fun g hg=>.inl (.inr (by cases hg;rfl)))
 have HF9:=ad hF9
 have hN9:kU w9 rb v.nv s.names:=aS.keep hnm fun k hk=>hF9.block k (hnm.lt k hk).2 fun e=>by
  rcases e with e|e
  ·have:=(hnm.lt k hk).1;omega
  ·exact hnb (by rw[hk,e])
 obtain⟨A,cap,hsh⟩:=hnm.shape
 have HN9:=ad hN9
 have e13:w9.cell? (ak rb 13)=some v.nv:=h9.blk.cell (i:=13) rfl
 have e9f:=h9.blk.free
 have htk:w9.cell? (ak u.heap.size 3)=some (af t.s):=by
  have hul:u.heap.size<W.heap.size:=World.block_lt_of_cell? W _ n0
  rw[World.cell?_of_block (w:=(W.setCell (ak rb 14) (ae (s.cnt+1))).drew.drew) (hG9.block _ (by simpa using hul) (by simp;have:=hvW.map.lt;have:=hv.map.lt;omega))]
  rw[<-n3]
  exact World.cell?_of_block (av _ _ _ _ (by simp only;omega))
 have hw9l:rb<w9.heap.size:=h9.blk.lt
 have HV9:=ad hV9
 have hnb':(Value.slice A s.names.length cap).ownBlock≠some mb:=by rw[<-hsh];exact hnb
 have hno:∀g,(Value.slice A s.names.length cap).ownBlock=some g->g=rb\/g=mb\/v.nv.ownBlock=some g:=fun g hg=>.inr (.inr (by rw[hsh];exact hg))
 have HNO:=ad hno
 have HNB:=ad hnb'
 clear h hgo hnew hv hW9 h14 h9 hF9 hN9 hnm hnb' hno
 obtain⟨i0,z0,hi0,hz0,hz1,hz2,hz3⟩:=vV
 unfold jm
 go_enter func56,ntmps56
 go_wp2_with fail
 rw[<-hW]
 clear hW
 go_region
 go_wp2_with fail
 go_region
 go_wp2_with fail
 clear hup hlk hvU hvW hV9 hG9 hs9
 rw[hsh]at e13
 go_region_law
  ((refine step_append_lies _ (by rfl) _ _ _ (by rfl) (rb+1) 39 i0 _ 2 24 underlying40 hi0 hz0 hz1 hz2 hz3 (by omega) (.slice A s.names.length cap) s.names.length (s.names.flatMap lW) (by rfl) (by rw[<-hsh];exact(aS.later HN9.out (by(repeat (first|exact aA|refine Below.drew ?_|refine Below.alloc ?_ aC _)))).own)
     ⟨w9.heap.size,0,none⟩ 1 1 (lW (t.s,s.cnt)) (by rfl) (by rfl) (World.news_of_block (cs:=(lW (t.s,s.cnt)).toArray) (t:=39) (fr:=(0,0)) (by exact heap_alloc_new w9 _)) (yP _)
     (by omega) (by unfold maxLen;omega) (by omega) (by simp;omega) (w9.heap.size+1) (by simp) ?_;intro gg cap2 w10 hown hgrow hat10 hlt10;obtain⟨hc10,hf10⟩:w10.cell? (ak rb 13)=some (.slice A s.names.length cap)/\w10.frozen? ⟨rb,13,none⟩=false:=⟨((ia H9.out (by(repeat (first|exact aA|refine Below.drew ?_|refine Below.alloc ?_ aC _))) hgrow (fun k hk=>by have:=HN9.lt k (by rw[hsh];exact hk);have:=H9.base;exact⟨by omega,by omega⟩)).blk.cell (i:=13) rfl).trans (congrArg some hsh),(ia H9.out (by(repeat (first|exact aA|refine Below.drew ?_|refine Below.alloc ?_ aC _))) hgrow (fun k hk=>by have:=HN9.lt k (by rw[hsh];exact hk);have:=H9.base;exact⟨by omega,by omega⟩)).blk.free 13⟩))
 all_goals
  go_wp2_with fail
  have g1:=ia H9.out (by(repeat (first|exact aA|refine Below.drew ?_|refine Below.alloc ?_ aC _))) hgrow (fun k hk=>by have:=HN9.lt k (by rw[hsh];exact hk);have:=H9.base;exact⟨by omega,by omega⟩)
  have g2:=g1.put (v':= {v with nv:=al gg (s.names.length+1) cap2}) (s':= {s.go 1 with cnt:=s.cnt+1,vars:=s.vars++[(t.s,s.cnt)],names:=s.names++[(t.s,s.cnt)]}) 13 (al gg (s.names.length+1) cap2) (by simp[bT,cI.go]) rfl rfl g1.in'
  have gv:=tG HV9.out (by(repeat (first|exact aA|refine Below.drew ?_|refine Below.alloc ?_ aC _))) hgrow HNB.out
  have gf:=Bg (HF9.weak fun k hk=>hk.elim .inl fun e=>.inr (.inl e)) (by(repeat (first|exact aA|refine Below.drew ?_|refine Below.alloc ?_ aC _))) hgrow HNO.out
  have GV:Hid (dS (w10.setCell (ak rb 13) (al gg (s.names.length+1) cap2)) mb (s.vars++[(t.s,s.cnt)])):=ad ⟨gv.map.setCell (p:=(ak rb 13)) (by simp only;omega) _,gv.ok⟩
  have GF:=ad (gf.setCell (p:=(ak rb 13)) (.inl (.inl rfl)) (al gg (s.names.length+1) cap2))
  clear gv gf
  refine(mv _ rb _ ts _ B g2 ⟨1,s.cnt,[],none,0,0⟩ (jk s.cnt) 0).mono ?_
  rintro e w1 ⟨rfl,r1,r2⟩
  have R1:=ad r1
  have hr10:kU w10 rb (al gg (s.names.length+1) cap2) (s.names++[(t.s,s.cnt)]):=⟨by rw[List.length_append,List.flatMap_append];simpa using hown⟩
  have hne10:(al gg (s.names.length+1) cap2).ownBlock≠some rb:=fun e=>by have:=(hr10.lt rb e).1;omega
  have hr11:=aS.keep hr10 (w':=w10.setCell (ak rb 13) (al gg (s.names.length+1) cap2)) fun k hk=>av _ _ _ _ fun e=>hne10 (by rw[hk];exact congrArg some e)
  have RN:=ad (aS.keep hr11 (w':=w1) fun k hk=>r2.block k (hr11.lt k hk).2 fun e=>hne10 (by rw[hk,e]))
  have RV:Hid (dS w1 mb (s.vars++[(t.s,s.cnt)])):=ad ⟨GV.map.keep (r2.block mb GV.map.lt (by omega)),GV.ok⟩
  have RF:=ad (GF.trans (r2.weak fun k hk=>.inl hk))
  clear r1 r2 hr10 hr11 hne10
  go_wp2_with fail
  exact bodyPost_end (v:=.tuple #[]) (by simp[results,results56,go_sem]) rfl ⟨rfl,_,R1.out,RN.out,RV.out,RF.out⟩
def Du (es:List (dh×dv)):qm:=⟨fun n=>((bM es 1 n).1,(bM es 1 n).2.2),fun n=>bM es 2 n,fun n=>((bM es 3 n).1,(bM es 3 n).2.1)⟩
def pi (n:Int):Prop:= -9223372036854775808<=n/\n<=9223372036854775807
theorem Dj:KE prog 3 kp pi:=
 ⟨int_keyed underlying3,fun _ hk=>⟨_,keyOf_int_mk underlying3 (tq hk.1 hk.2)⟩,fun a b h=>by simpa[kp]using h⟩
def kQ:List (Int×Nat):=[(3,55),(4,56),(5,57),(6,58),(1,59),(2,59)]
def ww (rb:Nat) (n:Nat):Value:=.func (.func n) #[ah rb] #[]
theorem Cm:∀x∈kQ,pi x.1:=by
 intro x hx
 simp only[kQ,List.mem_cons,List.mem_nil_iff,or_false]at hx
 unfold pi
 rcases hx with rfl|rfl|rfl|rfl|rfl|rfl<;>(simp only;omega)
theorem zw {u:World} {b rb:Nat} (h:aW u b kp (ww rb) kQ) (k:Int) (hk:pi k):
 (Instr.lookup 145 (.map (some b)) (ae k) true).run prog u=.ok (.tuple #[((aP kQ k).map (ww rb)).getD .nilFunc,.bool (aP kQ k).isSome]) u:=by
 have:=h.lookup (t:=145) Dj underlying145 (z:=.nilFunc) (fun u=>by kernel_rfl) Cm (k:=k) hk true
 simp only[if_true]at this
 exact this
end
section
open Go.RowKit Go.Maps
def Fz (B:Nat) (w:World) (v:Value) (b:Nat):Prop:=B<=b/\aR w 27 b/\v.ownBlock≠some b
def l4 (B:Nat) (w:World) (b:Nat):Prop:=B<=b/\aR w 27 b
structure dL (B bt:Nat) (k n:Int) (s:List UInt8) (l:List Tm) (A:Option Addr) (c:Nat) (xs:List TV) (w:World):Prop where
 box:w.heap[bt]?=some (.cells #[ae k,ae n,af s,.slice A l.length c] 27 (0,0))
 row:aS w B 27 4 aJ (.slice A l.length c) xs
 tms:ct w (Fz B w (.slice A l.length c)) xs l
 lt:bt<B
 name:s.length<=maxLen
section
variable {B bt:Nat} {k n:Int} {s:List UInt8} {l:List Tm} {A:Option Addr} {c:Nat} {xs:List TV} {w w':World}
theorem dL.len (h:dL B bt k n s l A c xs w):xs.length=l.length:=h.tms.1
theorem dL.later (h:dL B bt k n s l A c xs w) (hb:aE w w'):dL B bt k n s l A c xs w':=
 ⟨(hb.block bt (ap h.box).1).trans h.box,h.row.later hb,h.tms.keep (fun _ hb'=>⟨hb'.1,hb'.2.1.keep (hb.block _ hb'.2.1.lt),hb'.2.2⟩) (fun b hb'=>hb.block b hb'.2.1.lt),h.lt,h.name⟩
theorem dL.start (hB:bt<B) (hs:s.length<=maxLen) (hb:w.heap[bt]?=some (.cells #[ae k,ae n,af s,aj] 27 (0,0))):dL B bt k n s [] none 0 [] w:=
 ⟨hb,aS.nil _ _ _ _ _,.nil _ _,hB,hs⟩
theorem dL.cells (h:dL B bt k n s l A c xs w):w.cell? (ak bt 0)=some (ae k)/\w.cell? (ak bt 1)=some (ae n)/\w.cell? (ak bt 2)=some (af s)/\w.cell? (ak bt 3)=some (.slice A l.length c)/\(∀o,w.frozen? ⟨bt,o,none⟩=false):=aH h.box
theorem dL.done (h:dL B bt k n s l A c xs w):aI w (l4 B w) ⟨k,n,s,A,l.length,c⟩ (.mk k n s l):=
 (h.tms.keep (S':=l4 B w) (fun _ hb=>⟨hb.1,hb.2.1⟩) (fun _ _=>rfl)).comp h.row rfl (fun g hg=>⟨(h.row.lt g hg).1,h.row.ty hg⟩) s h.name k n
theorem dL.push {V:World} {x:TV} {t:Tm} {g cap:Nat} (h:dL B bt k n s l A c xs w) (hb:aE w V) (hx:aI V (l4 w.heap.size V) x t) (hB:B<=w.heap.size)
 (hR:aS w' B 27 4 aJ (al g (l.length+1) cap) (xs++[x])) (hg:V.grownBy w' (Value.slice A l.length c).ownBlock) (hl:(Value.slice A l.length c).ownBlock=some g\/g=V.heap.size):
 dL B bt k n s (l++[t]) (some (ak g 0)) cap (xs++[x]) (w'.setCell (ak bt 3) (al g (l.length+1) cap)):=by
 have hV:=h.later hb
 have hbtV:bt<V.heap.size:=(ap hV.box).1
 have hown:∀q,(Value.slice A l.length c).ownBlock=some q->B<=q/\q<w.heap.size:=fun q hq=>h.row.lt q hq
 have hkeep:∀b,b<V.heap.size->(Value.slice A l.length c).ownBlock≠some b->w'.heap[b]?=V.heap[b]?:=fun b hb1 hb2=>hg.block b hb1 (fun e=>hb2 e.symm)
 have hbox':w'.heap[bt]?=some (.cells #[ae k,ae n,af s,.slice A l.length c] 27 (0,0)):=by
  rw[hkeep bt hbtV (fun e=>by have:=(hown bt e).1;have:=h.lt;omega)]
  exact hV.box
 have hgB:=hR.lt g rfl
 have hset:∀b,b≠bt->(w'.setCell (ak bt 3) (al g (l.length+1) cap)).heap[b]?=w'.heap[b]?:=fun b hb1=>av _ _ _ _ hb1
 have hsz:V.heap.size<=w'.heap.size:=hg.size
 have hS:∀b,(Fz B V (.slice A l.length c) b\/l4 w.heap.size V b)->Fz B (w'.setCell (ak bt 3) (al g (l.length+1) cap)) (al g (l.length+1) cap) b/\(w'.setCell (ak bt 3) (al g (l.length+1) cap)).heap[b]?=V.heap[b]?:=fun b hb1=>by
  have h1:B<=b/\aR V 27 b/\(Value.slice A l.length c).ownBlock≠some b:=by
   rcases hb1 with h1|h1
   ·exact h1
   ·have:=h1.1
    exact⟨by omega,h1.2,fun e=>by have:=(hown b e).2;omega⟩
  have hbt:b≠bt:=by have:=h.lt;omega
  have hbl:=h1.2.1.lt
  refine⟨⟨h1.1,?_,fun e=>?_⟩,(hset b hbt).trans (hkeep b hbl h1.2.2)⟩
  ·exact h1.2.1.keep ((hset b hbt).trans (hkeep b hbl h1.2.2))
  ·have e:g=b:=by simpa[Value.ownBlock]using e
   rcases hl with h2|h2
   ·exact h1.2.2 (by rw[h2,e])
   ·omega
 refine⟨?_,?_,?_,h.lt,h.name⟩
 ·rw[List.length_append]
  exact aK hbox' _
 ·rw[List.length_append]
  exact hR.away _ fun q hq=>by
   have e:g=q:=by simpa[Value.ownBlock]using hq
   have:=h.lt
   simp only
   omega
 ·rw[List.length_append]
  refine ct.snoc ?_ ?_
  ·exact hV.tms.keep (fun b hb1=>(hS b (.inl hb1)).1) (fun b hb1=>(hS b (.inl hb1)).2)
  ·exact hx.keep (fun b hb1=>(hS b (.inr hb1)).1) (fun b hb1=>(hS b (.inr hb1)).2)
end
end
section
open Go.RowKit Go.Maps
def qa (p:bZ):List Value:=[ae p.k,ae p.n,af p.s,.int .u8 (p.a:Int)]
structure eT (w:World) (A:Option Addr) (l:List bZ):Prop where
 at':∀(i:Nat) (p:bZ),l[i]?=some p->∃b off,A=some (ak b off)/\b<w.heap.size/\∀(j:Nat) u,(qa p)[j]?=some u->w.cell? (ak b (off+i*4+j))=some u
 ok:∀p∈l,p.s.length<=maxLen/\p.a<256
 len:l.length<=1000000000
theorem eT.later {w w':World} {A:Option Addr} {l:List bZ} (h:eT w A l) (hb:aE w w'):eT w' A l:=
 ⟨fun i p hp=>by
  obtain⟨b,off,h1,h2,h3⟩:=h.at' i p hp
  exact⟨b,off,h1,Nat.lt_of_lt_of_le h2 hb.size,fun j u hu=>(hb.cell (p:=(ak b (off+i*4+j))) h2).trans (h3 j u hu)⟩,h.ok,h.len⟩
theorem eT.drop {w:World} {A:Option Addr} {l:List bZ} {c:Nat} (h:eT w A l) (k:Nat) (hk:0<k) (hl:k<=l.length) (hc:l.length<=c):
 ∃A2 c2,sliced A k l.length c 4=.slice A2 (l.drop k).length c2/\(l.drop k).length<=c2/\eT w A2 (l.drop k):=by
 unfold sliced
 refine⟨_,_,by rw[List.length_drop],by rw[List.length_drop];omega,⟨fun i p hp=>?_,fun p hp=>h.ok p (List.mem_of_mem_drop hp),by rw[List.length_drop];have:=h.len;omega⟩⟩
 rw[List.getElem?_drop]at hp
 obtain⟨b,off,h1,h2,h3⟩:=h.at' (k+i) p hp
 have hlt:=(aq hp).1
 refine⟨b,off+k*4,?_,h2,fun j u hu=>?_⟩
 ·rw[if_neg (by omega),h1]
  show some (Addr.add ⟨b,off,none⟩ (k*4))=_
  unfold Addr.add
  rw[if_neg (by omega)]
 ·have:=h3 j u hu
  rwa[show off+(k+i)*4+j=off+k*4+i*4+j by omega]at this
def ny (u:World) (l:List bZ) (e:Ending) (u':World):Prop:=
 ∃x:TV,e=.returned (.tuple #[aU x,ae ((gE l).2:Int)])/\aI u' (l4 u.heap.size u') x (gE l).1/\aE u u'
def FC (n:Nat):Prop:=∀(l:List bZ) (u:World) (A:Option Addr) (c:Nat),l.length<=n->l.length<=c->eT u A l->Calls prog 14 #[.slice A l.length c] u fun e u'=>ny u l e u'
theorem nS (w:World) (x:TV) (t:TypeId):∀j u,(aJ x)[j]?=some u->(w.alloc (.cells #[ae x.k,ae x.n,af x.s,.slice x.A x.len x.cap] t)).cell? (ak w.heap.size j)=some u:=fun j u hu=>by
 exact ey w _ t j u (by simpa[aJ]using hu)
theorem lX (w:World):(sizeOf (prog.elem 22)).run prog w=.ok 4 w:=by kernel_rfl
theorem sH {V w5:World} {bt B:Nat} {a0 a1 a2 a3 v:Value} {t:TypeId} {o:Obj} (h:V.heap[bt]?=some (.cells #[a0,a1,a2,a3] t (0,0))) (hlt:bt<V.heap.size) (hr:∀q,v.ownBlock=some q->B<=q/\q<V.heap.size) (hB:bt<B) (hg:(V.alloc o).grownBy w5 v.ownBlock):
 w5.cell? (ak bt 3)=some a3/\w5.frozen? ⟨bt,3,none⟩=false:=by
 have h1:w5.heap[bt]?=some (.cells #[a0,a1,a2,a3] t (0,0)):=by
  rw[hg.block bt (by simp;omega) (fun e=>by have:=(hr bt e.symm).1;omega),aw _ _ _ hlt]
  exact h
 obtain⟨-,-,-,h2,h3⟩:=aH h1
 exact⟨h2,h3 3⟩
theorem yX (u:World) (A:Option Addr) (c:Nat):Calls prog 14 #[.slice A 0 c] u fun e u'=>ny u [] e u':=by
 obtain⟨R,hR⟩:∃R:Ending->World->Prop,R=fun e u'=>ny u [] e u':=⟨_,rfl⟩
 rw[<-hR]
 have HRR:=ad hR
 clear hR
 go_enter func14,ntmps14
 go_wp2_with fail
 have hx0:=heap_alloc_new u (.cells #[ae 3,ae 0,.string ⟨#[97]⟩,aj] 27)
 obtain⟨f0,f1,f2,f3,-⟩:=aH hx0
 refine⟨rfl,.tuple #[.agg #[ae 3,ae 0,.string ⟨#[97]⟩,aj],ae 0],by simp[results,results14,go_sem,f0,f1,f2,f3],?_⟩
 rw[HRR.out]
 exact⟨⟨3,0,[97],none,0,0⟩,rfl,aI.leaf _ _ 3 0 [97] none 0 (by decide),aB⟩
theorem Cc {n:Nat} (hC:FC n):FC (n+1):=by
 intro l u A c hl hlc hp
 obtain⟨R,hR⟩:∃R:Ending->World->Prop,R=fun e u'=>ny u l e u':=⟨_,rfl⟩
 rw[<-hR]
 have HRR:=ad hR
 clear hR
 cases l with
 |nil=>rw[HRR.out];exact yX u A c
 |cons p r=>
  obtain⟨b,off,hA,hb,hc⟩:=hp.at' 0 p rfl
  have m0:=hc 0 _ rfl
  have m1:=hc 1 _ rfl
  have m2:=hc 2 _ rfl
  have m3:=hc 3 _ rfl
  simp only[Nat.zero_mul,Nat.add_zero]at m0 m1 m2 m3
  have hok:=hp.ok p (List.mem_cons_self ..)
  obtain⟨B,hB⟩:∃B,B=u.heap.size+3:=⟨_,rfl⟩
  obtain⟨bt,hbt⟩:∃bt,bt=u.heap.size+2:=⟨_,rfl⟩
  obtain⟨bp,hbp⟩:∃bp,bp=u.heap.size+1:=⟨_,rfl⟩
  obtain⟨br,hbr⟩:∃br,br=u.heap.size:=⟨_,rfl⟩
  obtain⟨W,hW⟩:∃W,W=((u.alloc (.cells #[ae 0,ae 0,ai,aj] 27)).alloc (.cells #[ae p.k,ae p.n,af p.s,.int .u8 (p.a:Int)] 73)).alloc (.cells #[ae p.k,ae p.n,af p.s,aj] 27):=⟨_,rfl⟩
  have hbW:aE u W:=by rw[hW];exact(aB.alloc (by simp) _).alloc (by simp;omega) _
  have hr0:W.heap[br]?=some (.cells #[ae 0,ae 0,ai,aj] 27 (0,0)):=by
   rw[hW,hbr,aw _ _ _ (by simp;omega),aw _ _ _ (by simp)]
   exact az
  have hp0:W.heap[bp]?=some (.cells #[ae p.k,ae p.n,af p.s,.int .u8 (p.a:Int)] 73 (0,0)):=by
   rw[hW,hbp,aw _ _ _ (by simp)]
   have:=heap_alloc_new (u.alloc (.cells #[ae 0,ae 0,ai,aj] 27)) (.cells #[ae p.k,ae p.n,af p.s,.int .u8 (p.a:Int)] 73)
   rwa[World.size_alloc]at this
  have ht0:W.heap[bt]?=some (.cells #[ae p.k,ae p.n,af p.s,aj] 27 (0,0)):=by
   rw[hW,hbt]
   have:=heap_alloc_new ((u.alloc (.cells #[ae 0,ae 0,ai,aj] 27)).alloc (.cells #[ae p.k,ae p.n,af p.s,.int .u8 (p.a:Int)] 73)) (.cells #[ae p.k,ae p.n,af p.s,aj] 27)
   rwa[World.size_alloc,World.size_alloc]at this
  have hstart:dL B bt p.k p.n p.s [] none 0 [] W:=dL.start (by omega) hok.1 ht0
  obtain⟨m,hm⟩:∃m,m=p.a%8:=⟨_,rfl⟩
  have hm7:m<=7:=by omega
  have hmm:(p.a:Int).tmod 8=(m:Int):=by rw[hm];rfl
  obtain⟨N,hN⟩:∃N,N=(p::r).length:=⟨_,rfl⟩
  have hN0:0<N:=by rw[hN];simp
  have hsW:W.heap.size=u.heap.size+3:=by rw[hW];simp
  have HB0:=ad (aD hB (aD hbt (aD hbp (aD hbr hsW))))
  have HP:=ad hp
  have HC:=ad hC
  have HLN:=ad (aD hl (aD hlc hN))
  have HST:=ad hstart
  have HBW:=ad hbW
  have HR0:=ad hr0
  have HPX:=ad hp0
  have HM:=ad hm
  have HOK:=ad hok
  rw[<-hN,hA]
  clear hC hl hlc hp hc hok hB hbW hr0 hp0 ht0 hstart hm hN
  go_enter func14,ntmps14
  have hNz:((N:Int)==0)=false:=beq_eq_false_iff_ne.2 (by omega)
  go_upto_region 6 with fail
  rw[<-hW,show u.heap.size+1+1=bt from hbt.symm,<-hbp,<-hbr]
  clear hW hbt hbp hbr m0 m1 m2 m3 hb
  go_wp2_with fail
  go_loopw [6,7] (fun a i wr=>∃(k:Nat) (A1:Option Addr) (c1:Nat) (xs:List TV),k<=m/\a=ae (1+((a8 gE k r).2:Nat))/\i=ae k/\Hid (dL B bt p.k p.n p.s (a8 gE k r).1 A1 c1 xs wr/\aE u wr/\wr.heap[br]?=W.heap[br]?/\wr.heap[bp]?=W.heap[bp]?)) (fun _ i _=>m-(intOf i).toNat)
  case atStart=>exact⟨0,none,0,[],Nat.zero_le _,rfl,rfl,ad ⟨HST.out,HBW.out,rfl,rfl⟩⟩
  case round=>
   obtain⟨k,A1,c1,xs,hk,rfl,rfl,HI⟩:=hrel
   have HPR:=ad (HI.2.2.2.trans HPX.out)
   have HRR0:=ad (HI.2.2.1.trans HR0.out)
   obtain⟨q0,q1,q2,q3,-⟩:=aH HPR.out
   by_cases hkm:k<m
   case neg=>
    have hke:k=m:=by omega
    subst hke
    have hd:decide ((k:Int)<(k:Int))=false:=by simp
    obtain⟨t0,t1,t2,t3,-⟩:=HI.1.cells
    obtain⟨r0,r1,r2,r3,rf⟩:=aH HRR0.out
    have HFIN:Hid (ny u (p::r) (.returned (.tuple #[aU ⟨p.k,p.n,p.s,A1,(a8 gE k r).1.length,c1⟩,ae (1+((a8 gE k r).2:Nat))])) ((((wr.setCell (ak br 0) (ae p.k)).setCell (ak br 1) (ae p.n)).setCell (ak br 2) (af p.s)).setCell (ak br 3) (.slice A1 (a8 gE k r).1.length c1))):=ad (by
     obtain⟨hB,hbt,hbp,hbr,hsz⟩:=HB0.out
     refine⟨⟨p.k,p.n,p.s,A1,(a8 gE k r).1.length,c1⟩,?_,?_,?_⟩
     ·rw[so,<-HM.out]
      simp
     ·rw[so,<-HM.out]
      refine HI.1.done.keep (fun q hq=>⟨by have:=hq.1;omega,?_⟩) (fun q hq=>aM _ _ _ _ (by have:=hq.1;omega))
      exact hq.2.keep (aM _ _ _ _ (by have:=hq.1;omega))
     ·have h1:=HI.2.1
      exact(((h1.setCell (p:=(ak br 0)) (by simp only;omega) _).setCell (p:=(ak br 1)) (by simp only;omega) _).setCell (p:=(ak br 2)) (by simp only;omega) _).setCell (p:=(ak br 3)) (by simp only;omega) _)
    have HC4:=ad (bc HRR0.out rfl (ae p.k) (ae p.n) (af p.s) (.slice A1 (a8 gE k r).1.length c1))
    go_wp2_with fail
    obtain⟨z0,z1,z2,z3,-⟩:=aH HC4.out
    refine⟨rfl,.tuple #[.agg #[ae p.k,ae p.n,af p.s,.slice A1 (a8 gE k r).1.length c1],ae (1+((a8 gE k r).2:Nat))],by simp[results,results14,go_sem,z0,z1,z2,z3],?_⟩
    rw[HRR.out]
    exact HFIN.out
   have hd:decide ((k:Int)<(m:Int))=true:=by simp;omega
   have hkr:(a8 gE k r).2<=r.length:=(gI pG k r).1
   have hNr:N=r.length+1:=by rw[HLN.2.2,List.length_cons]
   have hPW:eT wr (some (ak b off)) (p::r):=by rw[<-hA];exact HP.later HI.2.1
   obtain⟨A2,c2,hsl,hc2,hP2⟩:=hPW.drop (1+(a8 gE k r).2) (by omega) (by rw[List.length_cons];omega) (c:=c) HLN.2.1
   have hdr:(p::r).drop (1+(a8 gE k r).2)=r.drop (a8 gE k r).2:=by rw[Nat.add_comm,List.drop_succ_cons]
   rw[hdr]at hsl hc2 hP2
   rw[<-HLN.2.2]at hsl
   have hsi:sliced (some (ak b off)) (1+((a8 gE k r).2:Nat):Int).toNat N c 4=.slice A2 (r.drop (a8 gE k r).2).length c2:=by
    rw[show(1+((a8 gE k r).2:Nat):Int).toNat=1+(a8 gE k r).2 by omega]
    exact hsl
   have hcall:=HC.out (r.drop (a8 gE k r).2) wr A2 c2 (by have:=HLN.1;rw[List.length_cons]at this;rw[List.length_drop];omega) hc2 hP2
   have HCL:=ad hcall
   obtain⟨at',hat⟩:∃a:Nat,a=1+(a8 gE k r).2:=⟨_,rfl⟩
   have hsr:(Instr.slice 22 (.slice (some (ak b off)) N c) (some (ae (1+((a8 gE k r).2:Nat)))) none none).run prog wr=.ok (.slice A2 (r.drop (a8 gE k r).2).length c2) wr:=by
    rw[run_slice_l (P:=prog) (w:=wr) 22 (some (ak b off)) N c rfl .i64 _ (by omega) (by omega),lX,<-hsi]
    rfl
   clear hcall hP2 hsl hPW hsi
   obtain⟨kc,hkc⟩:∃kc,kc=(a8 gE k r).2:=⟨_,rfl⟩
   rw[<-hkc]at hsr HCL hkr hc2⊢
   have HKC:=ad hkc
   generalize hD:(r.drop kc).length=D at hsr HCL hc2
   have HD:=ad hD
   obtain⟨X,hX⟩:∃X,X=gE (r.drop kc):=⟨_,rfl⟩
   have hX2:X.2<=(r.drop kc).length:=by rw[hX];exact pG _
   have HX2:Hid (kc+X.2<=r.length):=ad (by rw[List.length_drop]at hX2;omega)
   have HXX:=ad hX
   have HLEN:Hid (r.length<=1000000000):=ad (by have:=HP.len;rw[List.length_cons]at this;omega)
   have HNR:=ad hNr
   clear hkc hX hD hkr hat hX2 hNr
   go_wp2_with fail
   refine HCL.mono ?_
   rintro e W1 ⟨y,rfl,hy,hb1⟩
   have HY:=ad hy
   have HB1:=ad hb1
   clear hy hb1 hsr
   rw[<-HXX.out,aN]
   go_upto_region 10 with fail
   obtain⟨V0,hV0⟩:∃V0,V0=W1.alloc (.cells #[ae y.k,ae y.n,af y.s,.slice y.A y.len y.cap] 27):=⟨_,rfl⟩
   obtain⟨b8,hb8⟩:∃b8,b8=W1.heap.size:=⟨_,rfl⟩
   have hV0b:aE W1 V0:=by rw[hV0];exact aB
   have hy0:V0.heap[b8]?=some (.cells #[ae y.k,ae y.n,af y.s,.slice y.A y.len y.cap] 27 (0,0)):=by rw[hV0,hb8];exact az
   rw[<-hV0,<-hb8]
   have hbV:aE wr V0:=HB1.trans (hV0b.mono HB1.size)
   have HBV:=ad hbV
   have hbld:=HI.1.later hbV
   have hxl:=hbld.len
   have HYV:Hid (aI V0 (l4 wr.heap.size V0) y X.1):=ad (by
    rw[HXX.out]
    exact HY.keep (fun q hq=>⟨hq.1,hq.2.keep (hV0b.block q hq.2.lt)⟩) (fun q hq=>hV0b.block q hq.2.lt))
   obtain⟨t0,t1,t2,t3,tf⟩:=hbld.cells
   obtain⟨y0,y1,y2,y3,-⟩:=aH hy0
   generalize hLL:(a8 gE k r).1=LL at hbld hxl t3
   have HLL:=ad hLL
   have HBLD:=ad hbld
   have HROW:Hid (aS V0 B 27 4 aJ (.slice A1 LL.length c1) xs):=ad hbld.row
   have hL7:LL.length=k:=by rw[<-hLL];exact(gI pG k r).2
   have hxs9:xs.length<=7:=by omega
   have HXS:=ad (aD hxl hxs9)
   have HBX:=ad hbld.box
   have HBt:Hid (bt<V0.heap.size/\bt<B/\B<=V0.heap.size/\B<=wr.heap.size):=ad ⟨(ap hbld.box).1,hbld.lt,by
    have h1:=HB0.out
    have h2:=(ap HI.1.box).1
    have h3:=hbV.size
    omega,by have h1:=HB0.out;have h2:=(ap HI.1.box).1;omega⟩
   obtain⟨i0,z0,hi0,hz0,hs0,hby0,hzc0⟩:=ft
   have hzs:z0.cells.size=4:=by rw[hzc0];rfl
   have HIN:=ad (aD hi0 (aD hz0 (aD hs0 (aD hby0 hzs))))
   have hw1:IntKind.i64.wrap (1+(kc:Int)+(X.2:Int))=1+(kc:Int)+(X.2:Int):=IntWalk.i64_in _ (by have:=HX2.out;have:=HLEN.out;omega)
   have hw2:IntKind.i64.wrap ((k:Int)+1)=(k:Int)+1:=IntWalk.i64_in _ (by omega)
   clear hV0 hb8 hV0b hy0 hbV hbld hxl hLL hL7 hxs9 hi0 hz0 hs0 hby0 hzc0 hzs q0 q1 q2 q3
   go_wp2_with (at_builtin;refine fh rfl _ _ 25 rfl _ B 27 i0 z0 4 56 aJ underlying25 HIN.1 HIN.2.1 HIN.2.2.1 HIN.2.2.2.1 HIN.2.2.2.2 (by decide) bh gy _ xs y rfl (HROW.alloc _) _ _ rfl (fun j u hu=>nS _ _ _ j u hu) (by have:=HXS.out;unfold maxLen;omega) (by have:=HXS.out;omega) (by have:=HBt.out;simp;omega) ?_;intro g5 cap5 w5 hR5 hg5 hl5;have HR5:=ad hR5;have HG5:=ad hg5;have HL5:=ad hl5;clear hR5 hg5 hl5;obtain⟨v3,vf⟩:=sH HBX.out HBt.1 (HROW.lt) HBt.2.1 HG5.out)
   have HNX:Hid (dL B bt p.k p.n p.s (a8 gE (k+1) r).1 (some (ak g5 0)) cap5 (xs++[y]) (w5.setCell (ak bt 3) (al g5 (xs.length+1) cap5))/\aE u (w5.setCell (ak bt 3) (al g5 (xs.length+1) cap5))/\(w5.setCell (ak bt 3) (al g5 (xs.length+1) cap5)).heap[br]?=W.heap[br]?/\(w5.setCell (ak bt 3) (al g5 (xs.length+1) cap5)).heap[bp]?=W.heap[bp]?):=ad (by
    obtain⟨hB,hbt,hbp,hbr,hsz⟩:=HB0.out
    have hxl:=HXS.1
    have hR5:=HR5.out
    rw[hxl]at hR5⊢
    have hbA:aE V0 (V0.alloc (.cells #[ae y.k,ae y.n,af y.s,.slice y.A y.len y.cap] 27)):=aB
    have hown:∀q,(Value.slice A1 LL.length c1).ownBlock=some q->B<=q/\q<V0.heap.size:=HROW.lt
    have hkeep:∀q,q<V0.heap.size->q<B->w5.heap[q]?=V0.heap[q]?:=fun q h1 h2=>by
     rw[HG5.block q (by simp;omega) (fun e=>by have:=(hown q e.symm).1;omega)]
     exact aw _ _ _ h1
    have hBV:=HBt.out
    refine⟨?_,?_,?_,?_⟩
    ·rw[iW,<-HKC.out,<-HXX.out,HLL.out]
     have h0:=HBLD.tms
     have hwr:=HI.1
     rw[HLL.out]at hwr
     refine dL.push hwr (HBV.trans (hbA.mono HBV.size)) (HYV.keep (fun q hq=>⟨hq.1,hq.2.keep (aw _ _ _ hq.2.lt)⟩) (fun q hq=>aw _ _ _ hq.2.lt)) hBV.2.2.2 hR5 HG5.out ?_
     rcases HL5.out with h|h
     ·exact .inl h
     ·exact .inr h
    ·have h1:aE u V0:=HI.2.1.trans (HBV.mono HI.2.1.size)
     have h2:aE u (V0.alloc (.cells #[ae y.k,ae y.n,af y.s,.slice y.A y.len y.cap] 27)):=h1.trans (hbA.mono h1.size)
     have h3:aE u w5:=h2.grown HG5.out h2.size fun q hq=>by have:=(hown q hq).1;omega
     exact h3.setCell (p:=(ak bt 3)) (by simp only;omega) _
    ·have h1:br<wr.heap.size:=(ap HRR0.out).1
     rw[av _ _ _ _ (by simp only;omega),hkeep br (by have:=HBV.size;omega) (by omega),HBV.block br h1]
     exact HI.2.2.1
    ·have h1:bp<wr.heap.size:=(ap HPR.out).1
     rw[av _ _ _ _ (by simp only;omega),hkeep bp (by have:=HBV.size;omega) (by omega),HBV.block bp h1]
     exact HI.2.2.2)
   have HSD:Hid (((a8 gE (k+1) r).2:Nat)=kc+X.2):=ad (by rw[iW,<-HKC.out,<-HXX.out])
   have hint:ae (1+(kc:Int)+(X.2:Int))=ae (1+((a8 gE (k+1) r).2:Nat)):=by
    rw[HSD.out]
    congr 1
    omega
   have HINT:=ad hint
   clear t0 t1 t2 t3 tf y0 y1 y2 y3 hint
   go_wp2_with fail
   go_roundw
   case rel=>exact⟨k+1,_,_,_,by omega,HINT.out,rfl,HNX⟩
   all_goals (simp[intOf];omega)
theorem Bu:∀n,FC n
 |0=>by
  intro l u A c hl hlc hp
  obtain rfl:l=[]:=List.eq_nil_of_length_eq_zero (by omega)
  exact yX u A c
 |n+1=>Cc (Bu n)
end
end Go.Proofs.YtigeofkllldilaaGreatDoor
