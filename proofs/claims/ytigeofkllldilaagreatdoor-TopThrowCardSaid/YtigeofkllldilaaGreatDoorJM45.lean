import Derived.Test.YtigeofkllldilaaGreatDoorJM44
import Derived.Test.YtigeofkllldilaaGreatDoorJM35
set_option maxHeartbeats 32000000
set_option maxRecDepth 100000
set_option linter.unusedSectionVars false
open Go.Proofs.Tryz
namespace Go.Proofs.YtigeofkllldilaaGreatDoor
section
open Go.RowKit Go.Maps
variable[Base]
def E5 (A:Option Addr) (c:Nat) (nv:Value) (mk ce tried:Int):List Value:=[ae 2,ae mk,ae ce,.pointer none,ae 0,ae 0,.slice A 1 c,aj,nv,ae tried,aj,ae 0,.bool false]
structure el (B:Nat) (u:World) (hb:Nat) (A:Option Addr) (c:Nat) (nv:Value) (tried:Int):Prop where
 blk:u.heap[hb]?=some (.cells (E5 A c nv 0 2 tried).toArray 246 (0,0))
 args:bn u A [1]
 nums:aS u B 3 1 eB nv [0,1]
 low:Base.b<=hb
section
variable {B hb c:Nat} {u u':World} {A:Option Addr} {nv:Value} {tried:Int}
theorem el.lt (h:el B u hb A c nv tried):hb<u.heap.size:=(ap h.blk).1
theorem el.ty (h:el B u hb A c nv tried):aR u 246 hb:=⟨_,h.blk⟩
theorem el.tf {N:Nat} {tys:List TypeId} (h:el B u hb A c nv tried) (hf:eL N tys u u') (h1:246∉tys) (h2:3∉tys):el B u' hb A c nv tried:=
 ⟨(hf.block h.ty h1).trans h.blk,h.args.keep fun _ hb=>hf.block hb h2,hf.row h.nums h2,h.low⟩
theorem el.later (h:el B u hb A c nv tried) (hb':aE u u'):el B u' hb A c nv tried:=h.tf (TF.of_below [] hb') (by simp) (by simp)
theorem el.get (h:el B u hb A c nv tried) (k:Nat):u.cell? (ak hb k)=(E5 A c nv 0 2 tried).toArray[k]?:=cell_of_row _ _ k _ _ _ h.blk
end
section
variable {rb room:Nat} {r:RC} {u:World} {cv bv:Value} {xs:List ec} {cs:List Sc} {ys:List (Nat×Int)}
theorem tZ (h:bS u rb r) (hs:aL r.sb room u cv bv xs cs ys) (hc:cs[1]?=some sL) (z:Int):
 Calls prog 342 #[ah rb,.agg (lS z),ae 1] u fun e u'=>e=.returned (.bool false)/\aE u u':=by
 obtain⟨W,hW⟩:∃W,W=u.alloc (.cells #[ae 2,ae z,ai,aj] 27):=⟨_,rfl⟩
 have hb:aE u W:=by rw[hW];exact aB
 have hz:W.heap[u.heap.size]?=some (.cells #[ae 2,ae z,ai,aj] 27 (0,0)):=by rw[hW];exact az
 have c1:W.cell? (ak rb 1)=some (ah r.sb):=(h.later hb).get 1
 have HL:=ad (fo (hs.later hb) (.here hc rfl) hc (by decide))
 have HB:=ad hb
 have HZ:=ad hz
 clear h hs hc hb hz
 unfold lS
 go_enter func342,ntmps342
 go_upto_region 1 with fail
 rw[<-hW]
 clear hW
 go_wp2_with fail
 refine HL.mono ?_
 rintro e w1 ⟨A',c',rfl,-,-,hb1⟩
 have hz1:=(hb1.block _ (ap HZ.out).1).trans HZ.out
 obtain⟨y0,-,-,-,-⟩:=aH hz1
 have hlt1:=(ap hz1).1
 have HB1:=ad (HB.trans (hb1.mono HB.size))
 rw[show aU (di 1 sL)=.agg #[ae 1,ae 1,ai,aj]from rfl]
 clear hb1 hz1 HL c1
 go_wp2_with fail
 go_ret
 exact⟨rfl,HB1.alloc HB1.size _⟩
end
theorem vY {W:World} {g:Nat} {z:Int} (h:W.heap[g]?=some (.cells (lS z) 27 (0,0))):aI W (aR W 27) ⟨4,0,[112],some (ak g 0),1,1⟩ (lE z):=
 ((ct.nil W (aR W 27)).snoc (aI.leaf W _ 2 z [] none 0 (by decide))).block h ⟨_,h⟩ [112] (by decide) 4 0 1
def FD (sb room:Nat) (u:World) (cs:List Sc) (z:Int) (e:Ending) (u':World):Prop:=
 e=.returned (.tuple #[ae (-1),.bool true,ae 0])/\(∃cv bv xs tp,aL sb room u' cv bv xs (cD cs z) [(1,tp)])/\TF oD u u'
theorem CZ {sb room:Nat} {u:World} {cv bv:Value} {xs:List ec} {cs:List Sc} {z:Int} (hs:aL sb room u cv bv xs (dK cs z) []) (hp:kY cs):
 Calls prog 176 #[ah sb,ae (cs.length:Nat),ae 0] u fun e u'=>e=.returned (.tuple #[.bool true,ae 0])/\(∃cv bv xs tp,aL sb room u' cv bv xs (cD cs z) [(1,tp)])/\TF oD u u':=by
 refine(oo hs cs.length 0 (by rw[iA];omega) (by rw[iA];omega) (by simp)).mono ?_
 rintro e u' ⟨ok,z',cv',bv',xs',cs',ys',csF,bsF,rfl,h1,h2,⟨-,-,-⟩,h4,h5⟩
 obtain⟨e1,rfl,rfl⟩:=hp.uni h4
 injection e1 with e1 e2
 subst e1 e2
 obtain⟨rfl,h6⟩:=h5 rfl
 refine⟨rfl,?_,h2⟩
 obtain⟨y,rfl⟩:∃y,ys'=[y]:=List.length_eq_one_iff.1 (by have:=congrArg List.length h6;simpa using this)
 obtain⟨v,tp⟩:=y
 obtain rfl:v=1:=by simpa using h6
 exact⟨cv',bv',xs',tp,h1⟩
end
end Go.Proofs.YtigeofkllldilaaGreatDoor
