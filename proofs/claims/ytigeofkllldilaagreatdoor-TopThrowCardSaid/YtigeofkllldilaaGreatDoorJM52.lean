import Derived.Test.YtigeofkllldilaaGreatDoorJM25
import Derived.Test.YtigeofkllldilaaGreatDoorJM26
import Derived.Test.YtigeofkllldilaaGreatDoorJM50
import Derived.Shelf.SlSortCmp.NoneTotal
import Derived.Test.YtigeofkllldilaaGreatDoorJM38
import Derived.Test.YtigeofkllldilaaGreatDoorJM44
set_option maxHeartbeats 32000000
set_option maxRecDepth 100000
set_option linter.unusedSectionVars false
open Go.Proofs.Tryz
namespace Go.Proofs.YtigeofkllldilaaGreatDoor
section
open Go.RowKit Go.Maps
abbrev fy:=Int×Int×List UInt8
open Go.Sort Go.Lib
theorem uL:∀a b:List UInt8,compareBytes a b<0↔a<b
 |[],[]=>by simp[compareBytes]
 |[],_::_=>by simp[compareBytes]
 |_::_,[]=>by simp[compareBytes]
 |a::l,b::r=>by
  rw[List.cons_lt_cons_iff,compareBytes]
  by_cases h1:a<b
  ·simp[h1]
  ·by_cases h2:b<a
   ·have h3:a≠b:=by rintro rfl;exact h1 h2
    simp[h1,h2,h3]
   ·have h3:a=b:=UInt8.le_antisymm (UInt8.not_lt.1 h2) (UInt8.not_lt.1 h1)
    subst h3
    simpa[h1]using uL l r
theorem Ah:∀a b:List UInt8,0<compareBytes a b↔b<a
 |[],[]=>by simp[compareBytes]
 |[],_::_=>by simp[compareBytes]
 |_::_,[]=>by simp[compareBytes]
 |a::l,b::r=>by
  rw[List.cons_lt_cons_iff,compareBytes]
  by_cases h1:a<b
  ·have h2:¬b<a:=UInt8.lt_asymm h1
   have h3:b≠a:=by rintro rfl;exact h2 h1
   simp[h1,h2,h3]
  ·by_cases h2:b<a
   ·simp[h1,h2]
   ·have h3:a=b:=UInt8.le_antisymm (UInt8.not_lt.1 h2) (UInt8.not_lt.1 h1)
    subst h3
    simpa[h1]using Ah l r
theorem AN (a b:List UInt8):a<b\/a=b\/b<a:=by
 rcases Classical.em (a<b)with h|h
 ·exact .inl h
 ·rcases Classical.em (b<a)with h2|h2
  ·exact .inr (.inr h2)
  ·exact .inr (.inl (List.le_antisymm (List.not_lt.1 h2) (List.not_lt.1 h)))
theorem Dg (a b:List UInt8):compareBytes a b=0↔a=b:=by
 constructor
 ·intro h
  rcases AN a b with h1|h1|h1
  ·have:=(uL a b).2 h1;omega
  ·exact h1
  ·have:=(Ah a b).2 h1;omega
 ·rintro rfl
  have h1:=(uL a a).1
  have h2:=(Ah a a).1
  have h3:=List.lt_irrefl a
  have h4:¬compareBytes a a<0:=fun h=>h3 (h1 h)
  have h5:¬0<compareBytes a a:=fun h=>h3 (h2 h)
  omega
def jT (a b:fy):Int:=if compareBytes a.2.2 b.2.2≠0 then compareBytes a.2.2 b.2.2 else compareInt a.2.1 b.2.1
def eN (a b:fy):Prop:=a.2.2<b.2.2\/(a.2.2=b.2.2/\a.2.1<b.2.1)
theorem iX (a b:fy):jT a b<0↔eN a b:=by
 unfold jT eN
 by_cases h:compareBytes a.2.2 b.2.2=0
 ·have h1:=(Dg _ _).1 h
  rw[if_neg (by simpa using h)]
  simp only[h1,false_or,true_and,List.lt_irrefl]
  unfold compareInt
  split
  ·simp[*]
  ·split<;>simp[*]
 ·have h1:a.2.2≠b.2.2:=fun e=>h ((Dg _ _).2 e)
  rw[if_pos h,uL]
  simp[h1]
theorem qj (a:fy):¬eN a a:=by
 unfold eN
 rintro(h|⟨_,h⟩)
 ·exact List.lt_irrefl _ h
 ·omega
theorem lK {a b c:fy} (h1:eN a b) (h2:eN b c):eN a c:=by
 unfold eN at*
 rcases h1 with h1|⟨h1,h3⟩
 ·rcases h2 with h2|⟨h2,h4⟩
  ·exact .inl (List.lt_trans h1 h2)
  ·exact .inl (h2▸h1)
 ·rcases h2 with h2|⟨h2,h4⟩
  ·exact .inl (h1▸h2)
  ·exact .inr ⟨h1.trans h2,by omega⟩
theorem oT (a b:fy):eN a b\/eN b a\/(a.2.2=b.2.2/\a.2.1=b.2.1):=by
 unfold eN
 rcases AN a.2.2 b.2.2 with h|h|h
 ·exact .inl (.inl h)
 ·have:a.2.1<b.2.1\/a.2.1=b.2.1\/b.2.1<a.2.1:=by omega
  rcases this with h1|h1|h1
  ·exact .inl (.inr ⟨h,h1⟩)
  ·exact .inr (.inr ⟨h,h1⟩)
  ·exact .inr (.inl (.inr ⟨h.symm,h1⟩))
 ·exact .inr (.inl (.inl h))
theorem pE {a b c:fy} (h1:¬eN a b) (h2:¬eN b c):¬eN a c:=by
 intro h
 rcases oT b c with h3|h3|⟨h3,h4⟩
 ·exact h2 h3
 ·exact h1 (lK h h3)
 ·apply h1
  unfold eN at h⊢
  rw[h3,h4]
  exact h
instance (a b:fy):Decidable (eN a b):=by unfold eN;infer_instance
theorem Dz:SWO (Go.Proofs.ltOf jT) where
 irrefl x:=by simp only[Go.Proofs.ltOf,iX,decide_eq_false_iff_not];exact qj x
 trans x y z:=by simp only[Go.Proofs.ltOf,iX,decide_eq_true_eq];exact lK
 ntrans x y z:=by simp only[Go.Proofs.ltOf,iX,decide_eq_false_iff_not];exact pE
def Bt (a b:fy):Prop:=¬eN b a
def kZ (l:List fy):Prop:=l.Pairwise Bt
def yK (l:List fy):Prop:=∀a∈l,∀b∈l,a.2.2=b.2.2->a.2.1=b.2.1->a=b
theorem sR {l1 l2:List fy} (hp:l1.Perm l2) (h1:kZ l1) (h2:kZ l2) (ha:yK l2):l1=l2:=by
 refine List.Perm.eq_of_pairwise (le:=Bt) ?_ h1 h2 hp
 intro a b h3 h4 h5 h6
 rcases oT a b with h|h|⟨h,h'⟩
 ·exact absurd h h6
 ·exact absurd h h5
 ·exact ha a (hp.mem_iff.1 h3) b h4 h h'
theorem nX {d d':Array fy} (hp:PermIn 0 d.size d d') (hs:SortedIn (Go.Proofs.ltOf jT) 0 d.size d'):d'.toList.Perm d.toList/\kZ d'.toList:=by
 obtain⟨hsz,_,hperm⟩:=hp
 have e1:d'.extract 0 d.size=d':=by rw[<-hsz];exact Array.extract_size
 rw[e1,Array.extract_size]at hperm
 refine⟨hperm,?_⟩
 unfold kZ
 rw[List.pairwise_iff_getElem]
 intro i j hi hj hij
 have hi':i<d'.size:=by simpa using hi
 have hj':j<d'.size:=by simpa using hj
 have:=hs i j (Nat.zero_le _) hij (by omega)
 rw[getElem!_pos d' j hj',getElem!_pos d' i hi']at this
 simp only[Go.Proofs.ltOf,decide_eq_false_iff_not,iX]at this
 simpa[Bt]using this
def mD (x:dh×dv):fy:=(x.2.1,x.2.2,x.1.2)
open Go.RowKit Go.Maps Go.Lib
def cC (x:fy):List Value:=[ae x.1,ae x.2.1,af x.2.2]
section
variable {α:Type} {w w':World} {sz:Nat} {enc:α->List Value} {v:Value} {l:List α}
structure nK (w:World) (B:Nat) (sz:Nat) (enc:α->List Value) (v:Value) (l:List α):Prop where
 shape:∃A cap,v=.slice A l.length cap/\(l≠[]->∃b off,A=some (ak b off)/\b<B/\∀i x,l[i]?=some x->∀j u,(enc x)[j]?=some u->w.cell? (ak b (off+i*sz+j))=some u)
theorem nK.keep {B:Nat} (h:nK w B sz enc v l) (hb:∀k,k<B->v.ownBlock=some k->w'.heap[k]?=w.heap[k]?):nK w' B sz enc v l:=by
 obtain⟨A,cap,rfl,h2⟩:=h.shape
 refine⟨A,cap,rfl,fun hne=>?_⟩
 obtain⟨b,off,rfl,hB,h3⟩:=h2 hne
 exact⟨b,off,rfl,hB,fun i x hx j u hu=>(World.cell?_of_block (a:=⟨b,off+i*sz+j,none⟩) (hb b hB rfl)).trans (h3 i x hx j u hu)⟩
theorem nK.below {B:Nat} (h:nK w B sz enc v l) (hb:Below B w w'):nK w' B sz enc v l:=h.keep fun k hk _=>hb.block k hk
theorem nK.up {B B':Nat} (h:nK w B sz enc v l) (hB:B<=B'):nK w B' sz enc v l:=by
 obtain⟨A,cap,rfl,h2⟩:=h.shape
 refine⟨A,cap,rfl,fun hne=>?_⟩
 obtain⟨b,off,rfl,hlt,h3⟩:=h2 hne
 exact⟨b,off,rfl,Nat.lt_of_lt_of_le hlt hB,h3⟩
end
theorem ee (x:fy):(cC x).length=3:=rfl
theorem mw (x:fy):∀u∈cC x,u.oneCell'=true:=by
 intro u hu
 simp[cC]at hu
 rcases hu with rfl|rfl|rfl<;>rfl
end
section
open Go.RowKit Go.Maps Go.Lib
theorem sF (w:World) (g:Nat) (c1:Int) (h1:w.cell? (ak g 0)=some (ae c1)) (hz:¬c1=0):
 Calls prog 43 #[al g 2 2] w fun e w'=>e=.returned (ae c1)/\w=w':=by
 have hz':(c1==0)=false:=by simpa using hz
 go_enter func43,ntmps43
 go_wp2_with fail
 refine wp_loop_rounds 1 ?_
 rw[rounds_succ]
 go_wp2
 go_ret
 exact⟨rfl,rfl⟩
theorem pV (w:World) (g:Nat) (c2:Int) (h1:w.cell? (ak g 0)=some (ae 0)) (h2:w.cell? (ak g 1)=some (ae c2)):
 Calls prog 43 #[al g 2 2] w fun e w'=>e=.returned (ae c2)/\w=w':=by
 by_cases hz:c2=0
 ·subst hz
  go_enter func43,ntmps43
  go_wp2_with fail
  refine wp_loop_rounds 3 ?_
  rw[rounds_succ]
  go_wp2
  rw[rounds_succ]
  go_wp2
  rw[rounds_succ]
  go_wp2
  go_ret
  exact⟨rfl,rfl⟩
 ·have hz':(c2==0)=false:=by simpa using hz
  go_enter func43,ntmps43
  go_wp2_with fail
  refine wp_loop_rounds 2 ?_
  rw[rounds_succ]
  go_wp2
  rw[rounds_succ]
  go_wp2
  go_ret
  exact⟨rfl,rfl⟩
def pJ (c1 c2:Int):Int:=if c1≠0 then c1 else c2
theorem yi (w:World) (g:Nat) (c1 c2:Int) (h1:w.cell? (ak g 0)=some (ae c1)) (h2:w.cell? (ak g 1)=some (ae c2)):
 Calls prog 43 #[al g 2 2] w fun e w'=>e=.returned (ae (pJ c1 c2))/\w=w':=by
 unfold pJ
 by_cases hz:c1=0
 ·subst hz
  exact pV w g c2 h1 h2
 ·rw[if_pos hz]
  exact sF w g c1 h1 hz
theorem mF (w:World) (a b:Obj) (cs:Array Value) (t:TypeId) (i:Nat) (u:Value) (h:cs[i]?=some u):
 ((((w.alloc a).alloc b).alloc (.cells cs t)).drew).cell? (ak (w.heap.size+1+1) i)=some u:=by
 have hb:((((w.alloc a).alloc b).alloc (.cells cs t)).drew).heap[w.heap.size+1+1]?=some (.cells cs t (0,0)):=by
  have:=heap_alloc_new ((w.alloc a).alloc b) (.cells cs t)
  have e:((w.alloc a).alloc b).heap.size=w.heap.size+1+1:=by simp
  rw[e]at this
  exact this
 rw[cell_of_row _ _ i cs t (0,0) hb]
 exact h
theorem ue (w:World) (x y:fy):Calls prog 42 #[.agg (cC x).toArray,.agg (cC y).toArray] w fun e w'=>e=.returned (ae (jT x y))/\∃q os',w'=Sort.grow (w.drewN q) os':=by
 have hs:∀W,Calls prog 44 #[af x.2.2,af y.2.2] W fun e w'=>e=.returned (ae (compareBytes x.2.2 y.2.2))/\w'=W:=fun W=>Tryz.strings_Compare _ _ W
 have hi:∀W,Calls prog 45 #[ae x.2.1,ae y.2.1] W fun e w'=>e=.returned (ae (compareInt x.2.1 y.2.1))/\w'=W:=fun W=>Tryz.cmp_Compare_int _ _ W
 have e0:jT x y=pJ (compareBytes x.2.2 y.2.2) (compareInt x.2.1 y.2.1):=rfl
 rw[e0]
 generalize compareBytes x.2.2 y.2.2=r1 at*
 generalize compareInt x.2.1 y.2.1=r2 at*
 unfold cC
 obtain⟨W,hW⟩:∃W,W=(((w.alloc (.cells #[ae x.1,ae x.2.1,af x.2.2] 66)).alloc (.cells #[ae y.1,ae y.2.1,af y.2.2] 66)).drew):=⟨_,rfl⟩
 have f1:W.cell? (ak w.heap.size 1)=some (ae x.2.1):=by rw[hW];simp
 have f2:W.cell? (ak w.heap.size 2)=some (af x.2.2):=by rw[hW];simp
 have f3:W.cell? (ak (w.heap.size+1) 1)=some (ae y.2.1):=by rw[hW];simp
 have f4:W.cell? (ak (w.heap.size+1) 2)=some (af y.2.2):=by rw[hW];simp
 go_enter func42,ntmps42
 go_wp2_with fail
 refine wp_region_still_tail 10 (by kernel_rfl) (by kernel_rfl) ?_
 simp only[List.take_succ_cons,List.take_zero,List.drop_succ_cons,List.drop_zero]
 change wpStill _ _ (((w.alloc _).alloc _).drew) (fun a'=>wpList _ _ _ _ a' (((w.alloc _).alloc _).drew)) _ _
 rw[<-hW]
 repeat still_step
 still_call (hs _)
 repeat still_step
 still_call (hi _)
 refine wpStill_nil ?_
 go_wp2_with fail
 refine(yi _ _ r1 r2 (mF _ _ _ _ _ 0 _ rfl) (mF _ _ _ _ _ 1 _ rfl)).mono ?_
 rintro e w' ⟨rfl,rfl⟩
 go_wp2_with fail
 go_ret
 exact⟨rfl,1,_,by rw[Sort.alloc_eq_grow,Sort.alloc_eq_grow,Sort.alloc_eq_grow,Sort.grow_grow,Sort.grow_grow];rfl⟩
end
end Go.Proofs.YtigeofkllldilaaGreatDoor
namespace Go.Proofs
open Go.Shelf
def Tryz.sortDefs_ren:Go.Shelf.Ren:=⟨fun|6=>41|15=>109|14=>108|28=>211|29=>212|20=>203|21=>204|22=>205|23=>206|24=>207|25=>208|26=>209|27=>210|46=>286|47=>287|48=>288|49=>289|50=>290|57=>355|n=>n,fun|22=>63|24=>66|25=>132|3=>3|39=>196|0=>0|53=>226|55=>301|4=>4|46=>293|45=>292|50=>297|5=>5|9=>9|66=>404|70=>408|76=>478|77=>212|n=>n,fun|n=>n⟩
theorem Tryz.sortDefs:Go.Proofs.SlLaysF0.n6 prog Tryz.sortDefs_ren:= {
 mixed:=by kernel_rfl
 f6:=⟨Tryz.f41.name,by decide,func41.trans (congrArg some (by kernel_rfl))⟩
 f14:=⟨Tryz.f108.name,by decide,func108.trans (congrArg some (by kernel_rfl))⟩
 f15:=func109.trans (congrArg some (by kernel_rfl))
 f20:=⟨Tryz.f203.name,by decide,func203.trans (congrArg some (by kernel_rfl))⟩
 f21:=⟨Tryz.f204.name,by decide,func204.trans (congrArg some (by kernel_rfl))⟩
 f22:=⟨Tryz.f205.name,by decide,func205.trans (congrArg some (by kernel_rfl))⟩
 f23:=⟨Tryz.f206.name,by decide,func206.trans (congrArg some (by kernel_rfl))⟩
 f24:=⟨Tryz.f207.name,by decide,func207.trans (congrArg some (by kernel_rfl))⟩
 f25:=⟨Tryz.f208.name,by decide,func208.trans (congrArg some (by kernel_rfl))⟩
 f26:=⟨Tryz.f209.name,by decide,func209.trans (congrArg some (by kernel_rfl))⟩
 f27:=⟨Tryz.f210.name,by decide,func210.trans (congrArg some (by kernel_rfl))⟩
 f28:=func211.trans (congrArg some (by kernel_rfl))
 f29:=func212.trans (congrArg some (by kernel_rfl))
 f46:=⟨Tryz.f286.name,by decide,func286.trans (congrArg some (by kernel_rfl))⟩
 f47:=func287.trans (congrArg some (by kernel_rfl))
 f48:=func288.trans (congrArg some (by kernel_rfl))
 f49:=⟨Tryz.f289.name,by decide,func289.trans (congrArg some (by kernel_rfl))⟩
 f50:=⟨Tryz.f290.name,by decide,func290.trans (congrArg some (by kernel_rfl))⟩
 f57:=⟨Tryz.f355.name,by decide,func355.trans (congrArg some (by kernel_rfl))⟩
 t0:=underlying0
 a0:=Tryz.isAgg0
 z0:=Tryz.sizeOf0
 v0:=Tryz.zeroValue0
 t3:=underlying3
 a3:=Tryz.isAgg3
 z3:=Tryz.sizeOf3
 v3:=Tryz.zeroValue3
 t4:=underlying4
 a4:=Tryz.isAgg4
 z4:=Tryz.sizeOf4
 v4:=Tryz.zeroValue4
 t5:=underlying5
 a5:=Tryz.isAgg5
 z5:=Tryz.sizeOf5
 v5:=Tryz.zeroValue5
 t9:=underlying9
 a9:=Tryz.isAgg9
 z9:=Tryz.sizeOf9
 v9:=Tryz.zeroValue9
 t22:=underlying63
 a22:=Tryz.isAgg63
 z22:=Tryz.sizeOf63
 v22:=Tryz.zeroValue63
 t25:=underlying132
 a25:=Tryz.isAgg132
 z25:=Tryz.sizeOf132
 v25:=Tryz.zeroValue132
 t39:=underlying196
 a39:=Tryz.isAgg196
 z39:=Tryz.sizeOf196
 v39:=Tryz.zeroValue196
 t45:=underlying292
 a45:=Tryz.isAgg292
 z45:=Tryz.sizeOf292
 v45:=Tryz.zeroValue292
 t46:=underlying293
 a46:=Tryz.isAgg293
 z46:=Tryz.sizeOf293
 v46:=Tryz.zeroValue293
 t50:=underlying297
 a50:=Tryz.isAgg297
 z50:=Tryz.sizeOf297
 v50:=Tryz.zeroValue297
 t53:=underlying226
 a53:=Tryz.isAgg226
 z53:=Tryz.sizeOf226
 v53:=Tryz.zeroValue226
 t55:=underlying301
 a55:=Tryz.isAgg301
 z55:=Tryz.sizeOf301
 v55:=Tryz.zeroValue301
 t66:=underlying404
 a66:=Tryz.isAgg404
 z66:=Tryz.sizeOf404
 v66:=Tryz.zeroValue404
 t70:=underlying408
 a70:=Tryz.isAgg408
 z70:=Tryz.sizeOf408
 v70:=Tryz.zeroValue408
 t76:=underlying478
 a76:=Tryz.isAgg478
 z76:=Tryz.sizeOf478
 v76:=Tryz.zeroValue478
 t77:=underlying212
 a77:=Tryz.isAgg212
 z77:=Tryz.sizeOf212
 v77:=Tryz.zeroValue212}
end Go.Proofs
namespace Go.Proofs.YtigeofkllldilaaGreatDoor
section
open Go.RowKit Go.Maps Go.Lib Go.Sort
theorem pM {α:Type} [Inhabited α] (enc:α->List Value) (k:Nat) (w:World) (blk off n:Nat) (d:Array α) (os:Array Obj):Fr (·=blk) w (sortWorldK enc k w blk off n d os):=by
 refine⟨rfl,rfl,rfl,by simp[sortWorldK,size_putRowK,Sort.ahead],fun i hi hn=>?_⟩
 unfold sortWorldK
 rw[heap_grow_old _ _ (by simpa[size_putRowK,Sort.ahead]using hi)]
 have:¬blk=i:=fun e=>hn e.symm
 simp[putRowK,putRow,mapBlock,Sort.ahead,Array.getElem?_modify,this]
theorem yb {w:World} {B:Nat} {e:TypeId} {l:List fy} {g cap:Nat} (h:aS w B e 3 cC (al g l.length cap) l):HoldsK cC 3 w g 0 l.toArray:=by
 intro t ht
 have ht':t<l.length*3:=by simpa using ht
 have hne:l≠[]:=by rintro rfl;simp at ht'
 obtain⟨g',cap',e1,_,_,_,h5⟩:=h.cells ee hne
 cases e1
 have hq:t/3<l.length:=by omega
 have hu:(cC l[t/3])[t%3]?=some (cC l[t/3])[t%3]! :=by
  have:t%3<(cC l[t/3]).length:=by rw[ee];omega
  rw[getElem!_pos (cC l[t/3]) (t%3) this,au this]
 have:=h5 (t/3) l[t/3] (au hq) (t%3) _ hu
 rw[show t/3*3+t%3=t by omega]at this
 rw[get_flatK _ _ _ _ (by simpa using ht'),Nat.zero_add]
 simpa[hq]using this
theorem qu (w:World) (v:Value) (l:List fy) (e:TypeId) (B:Nat) (h:aS w B e 3 cC v l) (hsz:l.length<4611686018427387904):
 Calls prog 41 #[v,.func (.func 42) #[] #[]] w fun e w'=>
  e=am/\∃l',l'.Perm l/\kZ l'/\nK w' w'.heap.size 3 cC v l'/\Fr (fun k=>v.ownBlock=some k) w w':=by
 by_cases hne:l=[]
 ·subst hne
  obtain⟨A,cap,rfl⟩:=h.shape
  refine(AnyF.slices_SortFunc_none {Tryz.sortDefs with} A cap _ w).mono ?_
  rintro e w' ⟨rfl,rfl⟩
  exact⟨rfl,[],List.Perm.refl _,List.Pairwise.nil,⟨A,cap,rfl,fun h=>absurd rfl h⟩,Fr.refl _ _⟩
 ·obtain⟨g,cap,rfl,_,hg,_,_⟩:=h.cells ee hne
  have hH:=yb h
  have eg:∀args w,(callFunc 42 args).run prog w=.ok (.enter 42 args) w:=enters_of func42 (by kernel_rfl) rfl
  have hcon:=AnyQ.slices_SortFunc Tryz.sortDefs 3 Tryz.isAgg66 Tryz.sizeOf66 cC ee mw jT Dz 42 #[] g 0 cap l.toArray w eg (fun m os dk _ x y=>ue _ x y) hH hg (by simpa using hsz)
  refine hcon.mono ?_
  rintro e w' ⟨rfl,d',n,os,hp,hs,rfl⟩
  obtain⟨p1,p2⟩:=nX hp hs
  have hF:=pM cC 3 w g 0 n d' os
  have hlen:d'.size=l.length:=by simpa using hp.1
  refine⟨rfl,d'.toList,p1,p2,⟨some (ak g 0),cap,by simp[hlen],fun _=>⟨g,0,rfl,Nat.lt_of_lt_of_le hg hF.size,?_⟩⟩,hF.weak fun k hk=>by simp[Value.ownBlock,hk]⟩
  have hc:=holdsK_sortWorldK_c cC 3 w g 0 l.toArray d' n os hH hg (by simpa using hlen)
  intro i x hx j u hu
  have hi:i<d'.size:=by simpa using(aq hx).1
  have hj:j<3:=by simpa[ee]using(aq hu).1
  have:=(hc.cell hi hj).1
  rw[this]
  have ex:d'[i]! =x:=by
   rw[getElem!_pos d' i hi]
   simpa[hi]using hx
  have hj':j<(cC x).length:=by rw[ee];exact hj
  rw[ex,getElem!_pos (cC x) j hj']
  rw[au hj']at hu
  exact hu
theorem aS.apart_iter {α κ ν:Type} {w:World} {B sz r b:Nat} {e:TypeId} {enc:α->List Value} {v:Value} {l:List α} {ek:κ->Value} {ev:ν->Value} {es left:List (κ×ν)}
 (h:aS w B e sz enc v l) (hr:cN w r b ek ev es left):v.ownBlock≠some r:=by
 obtain⟨es',clock,seen,_,_,_,hi,_⟩:=hr.it
 rcases h.own.2 with⟨rfl,_⟩|⟨g,cap,cur,rfl,_,hgg,_⟩
 ·simp[Value.ownBlock]
 ·simp only[Value.ownBlock,ne_eq,Option.some.injEq]
  rintro rfl
  rw[hgg]at hi
  cases hi
theorem sA (w:World) (a b:Obj) (cs:Array Value) (t:TypeId) (i:Nat) (u:Value) (h:cs[i]?=some u):
 ((((w.alloc a).alloc b).alloc (.cells cs t))).cell? (ak (w.heap.size+1+1) i)=some u:=by
 have hb:((((w.alloc a).alloc b).alloc (.cells cs t))).heap[w.heap.size+1+1]?=some (.cells cs t (0,0)):=by
  have:=heap_alloc_new ((w.alloc a).alloc b) (.cells cs t)
  have e:((w.alloc a).alloc b).heap.size=w.heap.size+1+1:=by simp
  rw[e]at this
  exact this
 rw[cell_of_row _ _ i cs t (0,0) hb]
 exact h
structure gZ (w:World) (bm r:Nat) (es:List (dh×dv)) (done:List fy) (left:List (dh×dv)) (v:Value) (wr:World):Prop where
 it:cN wr r bm sN Dl es left
 row:aS wr w.heap.size 66 3 cC v done
 perm:(done++left.map mD).Perm (es.map mD)
 below:aE w wr
 r_ge:w.heap.size<=r
theorem gZ.len {w wr:World} {bm r:Nat} {es left:List (dh×dv)} {done:List fy} {v:Value} (h:gZ w bm r es done left v wr):done.length+left.length=es.length:=by
 simpa using h.perm.length_eq
theorem nk {α:Type} :∀(l:List α) (j:Nat) (x:α),l[j]?=some x->(x::l.eraseIdx j).Perm l
 |[],j,x,h=>by simp at h
 |y::r,0,x,h=>by
  simp at h
  subst h
  exact List.Perm.refl _
 |y::r,j+1,x,h=>by
  simp at h
  exact(List.Perm.swap y x _).trans (List.Perm.cons y (nk r j x h))
theorem gZ.step {w wr wn w':World} {bm r j:Nat} {es left:List (dh×dv)} {done:List fy} {v v':Value} {x:dh×dv} {a b c:Obj} (h:gZ w bm r es done left v wr) (hbm:bm<w.heap.size)
 (hitn:cN wn r bm sN Dl es (left.eraseIdx j)) (hgn:wr.grownBy wn (some r)) (hjx:left[j]?=some x) (hrow:aS w' w.heap.size 66 3 cC v' (done++[mD x])) (hg:(((wn.alloc a).alloc b).alloc c).grownBy w' v.ownBlock):
 gZ w bm r es (done++[mD x]) (left.eraseIdx j) v' w':=by
 have hr:=hitn.lt.2
 have hbl:∀k,k<wn.heap.size->some k≠v.ownBlock->w'.heap[k]?=wn.heap[k]?:=by
  intro k hk hn
  rw[hg.block k (by simp;omega) hn,Below.heap_alloc _ _ k (by simp;omega),Below.heap_alloc _ _ k (by simp;omega),Below.heap_alloc _ _ k hk]
 have hlow:∀k,k<w.heap.size->some k≠v.ownBlock:=fun k hk e=>by
  have:=(h.row.lt k e.symm).1
  omega
 have hwn:w.heap.size<=wn.heap.size:=Nat.le_trans h.below.size hgn.size
 refine⟨hitn.keep (hbl _ (by omega) (hlow _ hbm)) (hbl _ hr (h.row.apart_iter h.it).symm),hrow,?_,?_,h.r_ge⟩
 ·have h1:=(nk left j x hjx).map mD
  rw[List.append_assoc]
  exact(List.Perm.append_left done h1).trans h.perm
 ·have hr':=h.r_ge
  have hs:=hg.size
  have hs2:((((wn.alloc a).alloc b).alloc c).heap.size)=wn.heap.size+1+1+1:=by simp
  refine⟨hg.os.trans (hgn.os.trans h.below.os),hg.tape.trans (hgn.tape.trans h.below.tape),hg.output.trans (hgn.output.trans h.below.output),by omega,fun k hk=>?_⟩
  rw[hbl k (by omega) (hlow k hk),hgn.block k (Nat.lt_of_lt_of_le hk h.below.size) (fun e=>by cases e;omega)]
  exact h.below.block k hk
theorem BC:∃i z,prog.info? 66=some i/\i.zero=some z/\i.size=3/\i.bytes=32/\z.cells.size=3:=by
 refine⟨_,_,rfl,rfl,?_,?_,?_⟩<;>kernel_rfl
theorem mG (w:World) (bt bm:Nat) (es:List (dh×dv)) (hT:cm w bt bm es) (hn:es.length<=100000):
 Calls prog 22 #[ah bt] w fun e w'=>∃v l,e=.returned v/\nK w' w'.heap.size 3 cC v l/\l.Perm (es.map mD)/\kZ l/\aE w w':=by
 obtain⟨i,z,hi,hz,hsi,hby,hzs⟩:=BC
 have hbt:=hT.lt
 have hbm:=hT.map.lt
 have hlen:=hT.map.len (P:=prog) (ty:=3) underlying87
 obtain⟨w1,hmk,hrow,hg1⟩:=aS.made (P:=prog) (w:=w) (B:=w.heap.size) (enc:=cC) underlying63 hi hz hsi .i64 .i64 es.length (by rw[hby];omega) (by unfold maxLen;omega) aC
 have hb1:aE w w1:=⟨hg1.os,hg1.tape,hg1.output,hg1.size,fun k hk=>hg1.block k hk (by simp)⟩
 obtain⟨w2,hrg,hit,hb2⟩:=(hT.map.below hb1 hbm).range (P:=prog) underlying87
 have hc:=hT.cell
 have hc1:=hb1.cell (p:=(ak bt 0)) hbt
 rw[hc]at hc1
 have hI:gZ w bm w1.heap.size es [] es (al w.heap.size 0 es.length) w2:=
  ⟨hit,hrow.later hb2,List.Perm.refl _,hb1.trans (hb2.mono hb1.size),hb1.size⟩
 have HI:=ad hI
 clear hT hI hb1 hg1 hrow hit hb2
 go_enter func22,ntmps22
 go_wp2_with fail
 go_loopw [3] (fun v wr=>∃done left,gZ w bm w1.heap.size es done left v wr) (fun v _=>es.length-sG v)
 case atStart=>exact⟨_,_,HI.out⟩
 case round=>
  obtain⟨done,left,hR⟩:=hrel
  have hlenR:=hR.len
  have HR:=ad hR
  clear hR HI
  by_cases hl:left=[]
  ·subst hl
   have hov:=HR.it.over (P:=prog) (ty:=0)
   go_wp2_with fail
   refine(qu wr _ done _ _ HR.row (by omega)).mono ?_
   rintro e w6 ⟨rfl,l',hp,hs,hS,hF⟩
   go_wp2_with fail
   go_ret
   refine⟨_,l',rfl,hS,hp.trans (by simpa using HR.perm),hs,?_⟩
   exact HR.below.trans (hF.below HR.below.size fun k hk e=>by have:=(HR.row.lt k e).1;omega)
  ·obtain⟨j,x,wn,hnx,hjx,hitn,hgn,hszn,hent⟩:=HR.it.next (P:=prog) (ty:=0) hl
   obtain⟨⟨x1,x2⟩,⟨x3,x4⟩⟩:=x
   simp only[sN,Dl]at hnx hent
   have HN:=ad hitn
   have HG:=ad hgn
   have hwn:w.heap.size<=wn.heap.size:=by rw[hszn];exact HR.below.size
   have HW:=ad (HR.row.kept hgn (.inr (HR.row.apart_iter HR.it)))
   clear hitn hgn hszn
   go_wp2_with (at_builtin;refine cK rfl _ _ 63 rfl _ w.heap.size 66 i z 3 32 cC underlying63 hi hz hsi hby hzs (by decide) ee mw _ done (x3,x4,x2) rfl (((HW.alloc _).alloc _).alloc _) _ _ rfl (fun j u hu=>sA _ _ _ _ _ j u (by simpa[cC]using hu)) (by unfold maxLen;omega) (by omega) (Nat.le_trans hwn (by simp;omega)) ?_)
   intro v' w5 hrow5 hg5
   have HI5:=ad (HR.step hbm HN.out HG.out hjx hrow5 hg5)
   have hlen5:=HI5.len
   have hl5:=HI5.row.len
   have hl4:=HR.row.len
   clear hrow5 hg5
   go_wp2_with fail
   go_roundw
   case rel=>exact⟨_,_,HI5.out⟩
   case measure=>
    rw[List.length_append]at hl5 hlen5
    simp only[List.length_cons,List.length_nil]at hl5 hlen5
    have:0<left.length:=List.length_pos_iff.2 hl
    omega
open Go.ChangeShapes Go.WideShapes Go.ChangeAt Go.RowKit
theorem zL:prog.globalNamed "prolix/ops.kinds"=some 0:=by kernel_rfl
theorem tL:(prog.globals[0]?).map (·.type)=some 99:=by kernel_rfl
theorem DV:prog.globalNamed "strings.asciiSpace"=some 1:=by kernel_rfl
theorem uq:(prog.globals[1]?).map (·.type)=some 161:=by kernel_rfl
theorem oH:prog.cellsOf 98=3:=by kernel_rfl
theorem byteCells:prog.cellsOf 5=1:=by kernel_rfl
theorem tV:prog.cellsOf 161=256:=by kernel_rfl
theorem sS:∃f g k:Field,prog.underlying 98=some (.struct #[f,g,k])/\f.type=3/\g.type=3/\k.type=3/\f.offset=0/\g.offset=1/\k.offset=2:=⟨_,_,_,underlying98,rfl,rfl,rfl,rfl,rfl,rfl⟩
theorem nW {W:World} {rest:List (String×DataW Unit)} (h:laidMet prog (("strings.asciiSpace",Rows.laid_strings_asciiSpace)::rest) W):Lib.TabIs prog W "strings.asciiSpace" .u8 Lib.asciiSpaceTab:=
 Lib.tabIs_of_head (rest:=rest) DV uq underlying161 underlying5 byteCells tV h
theorem oc {W:World} {rest:List (String×DataW Unit)} (h:laidMet prog (("prolix/ops.kinds",Rows.laid_prolix_ops_kinds)::rest) W):bR W:=by
 obtain⟨ps,⟨g',t',cs,fuel,p,q,hg',ht',hvar,hd,_,_⟩,_⟩:=h
 obtain rfl:=Option.some.inj (zL.symm.trans hg')
 obtain rfl:=Option.some.inj (tL.symm.trans ht')
 obtain⟨xs,m,_,hx,hlen,hn,hel⟩:=DataW.trod_array underlying99 hd
 obtain⟨f,g,k,hu,f1,g1,k1,f2,g2,k2⟩:=sS
 simp only[Prod.mk.injEq,Rows.laid_prolix_ops_kinds,DataW.agg.injEq]at hx
 intro t ht
 have hi:=hel t (by omega)
 obtain⟨x,hxt⟩:∃x,xs[t]?=some x:=⟨_,au (by omega)⟩
 rw[hxt,oH]at hi
 obtain⟨ys,_,_,hy,hl3,hyl,hf⟩:=DataW.trod_struct hu hi
 have hcs:∀i,i<3->W.cell? (ak 0 (t*3+i))=((cs.toList.drop (t*3)).take 3)[i]?:=by
  intro i hi
  rw[World.var?_cell zL hvar (t*3+i),List.getElem?_take,if_pos hi,List.getElem?_drop]
  simp
 have hmap:=congrArg (·[t]?) hx.1
 simp only[List.getElem?_map,hxt,Option.map_some,hy]at hmap
 rw[oH]at hl3
 generalize hz:(cs.toList.drop (t*3)).take 3=zs at*
 match zs,hl3 with
 |[c0,c1,c2],_=>
  have e0:=hf 0 f rfl
  have e1:=hf 1 g rfl
  have e2:=hf 2 k rfl
  rw[f1,f2,iQ]at e0
  rw[g1,g2,iQ]at e1
  rw[k1,k2,iQ]at e2
  simp only[List.drop_zero,List.take_succ_cons,List.take_zero,List.drop_succ_cons]at e0 e1 e2
  have hyl':ys.length=3:=hyl
  match ys,hyl' with
  |[y0,y1,y2],_=>
   simp only[List.getElem?_cons_zero,List.getElem?_cons_succ]at e0 e1 e2
   obtain⟨n0,h0,h0',_⟩:=DataW.trod_int underlying3 e0
   obtain⟨n1,h1,h1',_⟩:=DataW.trod_int underlying3 e1
   obtain⟨n2,h2,h2',_⟩:=DataW.trod_int underlying3 e2
   simp only[List.cons.injEq,and_true]at h0 h1 h2
   subst h0 h1 h2 h0' h1' h2'
   have a0:=hcs 0 (by omega)
   have a1:=hcs 1 (by omega)
   have a2:=hcs 2 (by omega)
   simp only[List.getElem?_cons_zero,List.getElem?_cons_succ,Nat.add_zero]at a0 a1 a2
   rw[a0,a1,a2]
   simp only[List.map_cons,List.map_nil]at hmap
   have:t=0\/t=1\/t=2\/t=3\/t=4\/t=5\/t=6\/t=7:=by omega
   rcases this with rfl|rfl|rfl|rfl|rfl|rfl|rfl|rfl<;>simp at hmap<;>obtain⟨rfl,rfl,rfl⟩:=hmap<;>exact⟨rfl,rfl,rfl⟩
open Go.ChangeShapes Go.WideShapes Go.ChangeAt Go.RowKit Go.Deep
theorem wQ:prog.cellsOf 73=4:=by kernel_rfl
theorem tO:∃f g k h:Field,prog.underlying 73=some (.struct #[f,g,k,h])/\f.type=3/\g.type=2/\k.type=9/\h.type=5/\f.offset=0/\g.offset=1/\k.offset=2/\h.offset=3:=⟨_,_,_,_,underlying73,rfl,rfl,rfl,rfl,rfl,rfl,rfl,rfl⟩
theorem zF:prog.cellsOf 2=1:=by kernel_rfl
theorem zg:prog.cellsOf 5=1:=by kernel_rfl
theorem nZ {H:Type} {enc:TypeId×Value->H} {W:World} {base:Nat} {sp:Nat->Bool} {held:Bool} {n:Nat} {v:Value} {y:DataW H×List MemPlace} (h:DataW.trod enc prog W base sp held n 22 [v]=some y):
 ∃(A:Option Addr) (k c:Nat),v=.slice A k c/\qh W A k c:=by
 rcases open_slice underlying22 h with⟨h0,_⟩|⟨a,len,cap,m,n',D,Pl,hcs,_,hlc,hcm,hm,_,hel⟩
 ·obtain rfl:v=aj:=by simpa using h0
  exact⟨none,0,0,rfl,fun _=>⟨[],rfl,aC,⟨fun i x h=>(by simp at h),fun p hp=>(by cases hp),Nat.zero_le _⟩,fun p hp=>(by cases hp)⟩⟩
 ·obtain rfl:v=.slice (some a) len cap:=by simpa using hcs
  have hlm:len<=m:=by rw[hm];split<;>omega
  rw[wQ]at hel
  obtain⟨f,g,q,r,hu,f1,g1,q1,r1,f2,g2,q2,r2⟩:=tO
  have key:∀i,i<len->∃x:bZ,(∃b off,(some a:Option Addr)=some (ak b off)/\b<W.heap.size/\∀(j:Nat) u,(qa x)[j]?=some u->W.cell? (ak b (off+i*4+j))=some u)/\(x.s.length<=maxLen/\x.a<256)/\(-9223372036854775808<=x.n/\x.n<=9223372036854775807):=by
   intro i hi
   obtain⟨ha,hb⟩:=Ca (w:=W) (base:=base) (a:=a) (k:=4) (len:=len) (by omega) (fun j hj=>by obtain⟨cs,h1,_⟩:=hel j (by omega);exact⟨cs,h1⟩) (by omega)
   obtain⟨cs,h1,h2⟩:=hel i (by omega)
   obtain⟨_,hl3,hc⟩:=World.cells?_some h1
   obtain⟨xs,_,_,_,_,hxl,hf⟩:=DataW.trod_struct hu h2
   match cs,hl3 with
   |[c0,c1,c2,c3],_=>
    have e0:=hf 0 f rfl
    have e1:=hf 1 g rfl
    have e2:=hf 2 q rfl
    have e3:=hf 3 r rfl
    rw[f1,f2]at e0
    rw[g1,g2]at e1
    rw[q1,q2]at e2
    rw[r1,r2]at e3
    rw[show prog.cellsOf 3=1 from iQ]at e0
    rw[zF]at e1
    rw[show prog.cellsOf 9=1 from lw]at e2
    rw[zg]at e3
    simp only[List.drop_zero,List.take_succ_cons,List.take_zero,List.drop_succ_cons]at e0 e1 e2 e3
    have hlen:xs.length=4:=hxl
    obtain⟨y0,hy0⟩:∃y0,xs[0]?=some y0:=⟨_,au (by omega)⟩
    obtain⟨y1,hy1⟩:∃y1,xs[1]?=some y1:=⟨_,au (by omega)⟩
    obtain⟨y2,hy2⟩:∃y2,xs[2]?=some y2:=⟨_,au (by omega)⟩
    obtain⟨y3,hy3⟩:∃y3,xs[3]?=some y3:=⟨_,au (by omega)⟩
    rw[hy0]at e0
    rw[hy1]at e1
    rw[hy2]at e2
    rw[hy3]at e3
    obtain⟨p,hp,_,_⟩:=DataW.trod_int underlying3 e0
    obtain⟨t,ht,_,wt⟩:=DataW.trod_int underlying2 e1
    obtain⟨s,hs,_,hsz⟩:=DataW.trod_string underlying9 e2
    obtain⟨o,ho,_,wo⟩:=DataW.trod_int underlying5 e3
    simp only[List.cons.injEq,and_true]at hp ht hs ho
    subst hp ht hs ho
    have bo:=bounds_u8 wo
    have bt:=bounds_i64 wt
    have a0:=hc 0 (by omega)
    have a1:=hc 1 (by omega)
    have a2:=hc 2 (by omega)
    have a3:=hc 3 (by omega)
    rw[ha,si,si]at a0 a1 a2 a3
    refine⟨⟨p,t,s.data.toList,o.toNat⟩,⟨a.block,a.off,congrArg some ha,hb,?_⟩,⟨?_,by show o.toNat<256;omega⟩,bt⟩
    ·intro j u hu
     have ho:((o.toNat:Nat):Int)=o:=by omega
     unfold qa at hu
     rw[ho]at hu
     match j,hu with
     |0,hu=>
      have hu:ae p=u:=by simpa using hu
      rw[<-hu];simpa using a0
     |1,hu=>
      have hu:ae t=u:=by simpa using hu
      rw[<-hu];simpa using a1
     |2,hu=>
      have hu:Value.string s=u:=by simpa using hu
      rw[<-hu];simpa using a2
     |3,hu=>
      have hu:Value.int .u8 o=u:=by simpa using hu
      rw[<-hu];simpa using a3
     |j+4,hu=>simp at hu
    ·show s.data.toList.length<=maxLen
     rw[Array.length_toList]
     exact hsz
  obtain⟨l,hl,hq⟩:=lL len key
  refine⟨some a,len,cap,rfl,fun hn=>⟨l,hl,hlc,⟨fun i p hp=>(hq i p hp).1,fun p hp=>?_,by omega⟩,fun p hp=>?_⟩⟩
  ·obtain⟨i,hi,rfl⟩:=List.getElem_of_mem hp
   exact(hq i _ (au hi)).2.1
  ·obtain⟨i,hi,rfl⟩:=List.getElem_of_mem hp
   exact(hq i _ (au hi)).2.2
end
end Go.Proofs.YtigeofkllldilaaGreatDoor
open Go.Proofs.Tryz
namespace Go.Proofs.YtigeofkllldilaaGreatDoor
section
open Go.RowKit Go.Maps
theorem DM {w:World} {b B:Nat} (h:w.heap[b]?=some (.cells #[.pointer none,aj] 398 (0,0))) (hB:B<=b):Lib.IsBuilder 398 5 B b (Lib.byteCells []) w:=
 .inl ⟨hB,_,h,World.ownsRow_nil _ _ _ _,by simp[Value.ownBlock]⟩
def gS (txt:List UInt8):List UInt8:=[88,32,61,32]++txt
variable[Base]
theorem Bl {rb db ob room i:Nat} {r:RC} {u:World} {l:List (Int×List UInt8)} {spent:Int} {over txt:List UInt8} {cv bv:Value} {xs:List ec} {cs:List Sc} {ys:List (Nat×Int)} {t:Tm} {An:Option Addr} {cn:Nat} {m:List (Int×Int)} {nv:Int}
 (h:aT u rb r l db ob spent over) (hnm:r.nm=.slice An 1 cn) (hN:cO u An [([88],nv)]) (hnv:0<=nv/\nv<=1000000) (hv:M6 u r.vb m) (hm:aP m nv=some ((i:Nat):Int)) (hs:aL r.sb room u cv bv xs cs ys) (hvn:cj cs) (hgt:ic cs i t) (hmy:t.may=true) (h6:∀n∈dP t,fP n) (hsz:t.size<=2000) (ha:0<=r.ans/\r.ans<=1000) (hl:l.length+1<=100000) (htl:txt.length<=100000000)
 (hPut:∀w z,aE u w->aI w (aR w 27) z (bA t)->Calls prog 16 #[aU z,ae 1,ah ob] w fun e w'=>e=.returned (.tuple #[af txt,ae 0])/\aE w w'):
 Calls prog 197 #[ah rb] u fun e u'=>e=.returned (ae (if r.ans+1=r.most then 3 else 1))/\∃v,aT u' rb {r with ev:=v,ans:=r.ans+1} (l++[(1,gS txt)]) db ob spent over/\TF rI u u':=by
 refine aa fun P hP=>?_
 have HP:=ad hP
 obtain⟨U,hU⟩:∃U,U=u.alloc (.cells #[.pointer none,aj] 398):=⟨_,rfl⟩
 have hbU:aE u U:=by rw[hU];exact aB
 have hBl:U.heap[u.heap.size]?=some (.cells #[.pointer none,aj] 398 (0,0)):=by rw[hU];exact heap_alloc_new u _
 have hmm:=qs U
 obtain⟨W,hW⟩:∃W,W=(U.alloc (.map #[] 0)).alloc (.cells #[.map (some U.heap.size),ae 0] 338):=⟨_,rfl⟩
 have hbW:aE U W:=by rw[hW];exact aB.alloc (by simp) _
 have hbuW:aE u W:=hbU.trans (hbW.mono hbU.size)
 obtain⟨nb,hnb⟩:∃nb,nb=U.heap.size+1:=⟨_,rfl⟩
 obtain⟨mp,hmp⟩:∃mp,mp=U.heap.size:=⟨_,rfl⟩
 have hRN:eM nb mp W []:=by
  have h1:=heap_alloc_new (U.alloc (.map #[] 0)) (.cells #[.map (some U.heap.size),ae 0] 338)
  rw[World.size_alloc]at h1
  refine⟨by rw[hW,hnb,hmp];exact h1,?_⟩
  rw[hW,hmp]
  exact(M6.made U).later aB
 have HW:Hid (W.heap[u.heap.size]?=some (.cells #[.pointer none,aj] 398 (0,0))/\eM nb mp W []/\aE u W):=ad ⟨(hbW.block _ (ap hBl).1).trans hBl,hRN,hbuW⟩
 have HNB:Hid (u.heap.size<nb/\u.heap.size<mp):=ad (by have h1:=(ap hBl).1;omega)
 have c2:W.cell? (ak rb 2)=some (.slice An 1 cn):=((h.later hbuW).run.get 2).trans (by show some r.nm=_;rw[hnm])
 obtain⟨-,g,off,rfl,hg,n0,n1⟩:=hN 0 _ rfl
 simp only[Nat.zero_mul,Nat.add_zero]at n0 n1
 have HN:Hid (∀w,aE u w->w.cell? (ak g off)=some (.string ⟨#[88]⟩)/\w.cell? (ak g (off+1))=some (ae nv)):=ad fun w hb=>⟨(hb.cell (p:=(ak g off)) hg.lt).trans n0,(hb.cell (p:=(ak g (off+1))) hg.lt).trans n1⟩
 have HH:=ad (aD h (aD hv (aD hm (aD hs (aD hvn (aD hgt (aD hmy (aD h6 (aD hsz (aD ha (aD hl (aD htl hnv))))))))))))
 have HPT:=ad hPut
 obtain⟨zn,hzn⟩:∃zn:Int,zn= -1-nv:=⟨_,rfl⟩
 have hwn:IntKind.i64.wrap (-1-nv)=zn:=by rw[hzn];exact IntWalk.i64_in _ (by omega)
 clear h hnm hN hv hm hs hvn hgt hmy h6 hsz ha hl htl hnv hPut hP hbU hBl hbW hbuW hRN n0 n1 hg hzn
 go_enter func197,ntmps197
 go_upto_region 2 with fail
 rw[<-hU]
 clear hU
 go_upto_region 3 with fail
 rw[<-hW,<-hnb]
 clear hW hmm hnb hmp
 go_wp2_with fail
 clear c2
 go_loopw [21] (fun i wr=>(i=ae 0/\Hid (wr.heap[u.heap.size]?=some (.cells #[.pointer none,aj] 398 (0,0))/\eM nb mp wr []/\aE u wr))\/(i=ae 1/\Hid (Lib.IsBuilder 398 5 u.heap.size u.heap.size (Lib.byteCells (gS txt)) wr/\aE u wr))) (fun i _=>1-(intOf i).toNat)
 case atStart=>exact .inl ⟨rfl,HW⟩
 case round=>
  clear HW
  rcases hrel with⟨rfl,HE⟩|⟨rfl,HE⟩
  ·obtain⟨n0,n1⟩:=HN.out wr HE.2.2
   obtain⟨W1,hW1⟩:∃W1,W1=wr.alloc (.cells #[.string ⟨#[88]⟩,ae nv] 39):=⟨_,rfl⟩
   have hb1:aE wr W1:=by rw[hW1];exact aB
   have hz1:W1.heap[wr.heap.size]?=some (.cells #[.string ⟨#[88]⟩,ae nv] 39 (0,0)):=by rw[hW1];exact az
   obtain⟨xb,hxb⟩:∃xb,xb=wr.heap.size:=⟨_,rfl⟩
   rw[<-hxb]at hz1
   have y0:W1.cell? (ak xb 0)=some (.string ⟨#[88]⟩):=(cell_of_row _ _ 0 _ _ _ hz1).trans rfl
   have y1:W1.cell? (ak xb 1)=some (ae nv):=(cell_of_row _ _ 1 _ _ _ hz1).trans rfl
   have HB1:=ad (aD hb1 hz1)
   clear hb1 hz1
   go_upto_region 6 with fail
   rw[<-hxb,<-hW1]
   clear hW1 hxb n0 n1
   go_wp2_with fail
   refine(EN _).mono ?_
   rintro e w1 ⟨rfl,rfl⟩
   obtain⟨W2,hW2⟩:∃W2,W2=w1.alloc (.cells #[ae 1,ae zn,ai,aj] 27):=⟨_,rfl⟩
   have hb2:aE w1 W2:=by rw[hW2];exact aB
   have hz2:W2.heap[w1.heap.size]?=some (.cells #[ae 1,ae zn,ai,aj] 27 (0,0)):=by rw[hW2];exact az
   obtain⟨tb,htb⟩:∃tb,tb=w1.heap.size:=⟨_,rfl⟩
   rw[<-htb]at hz2
   have hbr2:aE wr W2:=HB1.1.trans (hb2.mono HB1.1.size)
   have hbu2:aE u W2:=HE.2.2.trans (hbr2.mono HE.2.2.size)
   have hzx:=(hb2.block _ (ap HB1.2).1).trans HB1.2
   have hge:wr.heap.size<=tb:=by rw[htb];exact HB1.1.size
   have v1:W2.cell? (ak xb 1)=some (ae nv):=(cell_of_row _ _ 1 _ _ _ hzx).trans rfl
   have r3:W2.cell? (ak rb 3)=some (.map (some r.vb)):=(HH.1.later hbu2).run.get 3
   have r1:W2.cell? (ak rb 1)=some (ah r.sb):=(HH.1.later hbu2).run.get 1
   have hlk:=(HH.2.1.later hbu2.drew).hit nv (by have:=HH.2.2.2.2.2.2.2.2.2.2.2.2;unfold fP;omega) HH.2.2.1
   have HGE:Hid (Calls prog 173 #[ah r.sb,ae (i:Nat)] W2.drew fun e w3=>∃yk yn ys yA yl yc,e=.returned (.tuple #[.agg #[ae yk,ae yn,af ys,.slice yA yl yc],ae 0])/\aI w3 (fL W2.heap.size w3) ⟨yk,yn,ys,yA,yl,yc⟩ t/\aE W2 w3):=ad (by
    refine(pY (HH.2.2.2.1.later hbu2.drew) HH.2.2.2.2.1 HH.2.2.2.2.2.1 HH.2.2.2.2.2.2.2.2.1).mono ?_
    rintro e w3 ⟨⟨yk,yn,ys,yA,yl,yc⟩,rfl,k1,k2⟩
    exact⟨yk,yn,ys,yA,yl,yc,rfl,k1,aA.drew.trans k2⟩)
   have HB2:=ad (aD hbr2 (aD hz2 (aD hzx hge)))
   clear hb2 hz2 hbr2 hbu2 hzx hge HB1
   go_upto_region 8 with fail
   rw[<-htb,<-hW2]
   clear hW2 htb y0 y1
   go_region
   clear hlk v1 r3
   go_wp2_with fail
   refine HGE.mono ?_
   rintro e w3 ⟨yk,yn,ys,yA,yl,yc,rfl,ht3,hb3⟩
   obtain⟨W4,hW4⟩:∃W4,W4=w3.alloc (.cells #[ae yk,ae yn,af ys,.slice yA yl yc] 27):=⟨_,rfl⟩
   have hb4:aE w3 W4:=by rw[hW4];exact aB
   have hz4:W4.heap[w3.heap.size]?=some (.cells #[ae yk,ae yn,af ys,.slice yA yl yc] 27 (0,0)):=by rw[hW4];exact az
   have hb24:aE W2 W4:=hb3.trans (hb4.mono hb3.size)
   have hz24:=(hb24.block _ (ap HB2.2.1).1).trans HB2.2.1
   have hx24:=(hb24.block _ (ap HB2.2.2.1).1).trans HB2.2.2.1
   obtain⟨s0,s1,s2,s3,-⟩:=aH hz4
   obtain⟨q0,q1,q2,q3,qf⟩:=aH hz24
   have hlt:=(ap hz24).1
   have HT4:=ad (aD (ht3.keep (w':=W4) (S':=fL W2.heap.size W4) (fun b hb=>⟨hb.1,hb.2.keep (hb4.block b hb.2.lt)⟩) fun b hb=>hb4.block b hb.2.lt) (show tb<W2.heap.size from(ap HB2.2.1).1))
   have HB4:=ad (aD (HB2.1.trans (hb24.mono HB2.1.size)) (aD hz24 hx24))
   clear ht3 hb3 hb4 hz4 hb24 hz24 hx24 HGE r1
   go_upto_region 13 with fail
   rw[<-hW4]
   clear hW4
   go_upto_region 14 with fail
   obtain⟨X,hX⟩:∃X,X=((((W4.setCell (ak tb 0) (ae yk)).setCell (ak tb 1) (ae yn)).setCell (ak tb 2) (af ys)).setCell (ak tb 3) (.slice yA yl yc)):=⟨_,rfl⟩
   have hXz:X.heap[tb]?=some (.cells #[ae yk,ae yn,af ys,.slice yA yl yc] 27 (0,0)):=by rw[hX];exact bc HB4.2.1 rfl _ _ _ _
   have hXb:aE wr X:=by rw[hX];exact(((HB4.1.setCell (p:=(ak tb 0)) HB2.2.2.2 _).setCell (p:=(ak tb 1)) HB2.2.2.2 _).setCell (p:=(ak tb 2)) HB2.2.2.2 _).setCell (p:=(ak tb 3)) HB2.2.2.2 _
   have hXx:X.heap[xb]?=some (.cells #[.string ⟨#[88]⟩,ae nv] 39 (0,0)):=by rw[hX];exact(aM _ _ _ _ (aR.ne (t:=39) ⟨_,HB4.2.2⟩ (t':=27) ⟨_,HB4.2.1⟩ (by decide))).trans HB4.2.2
   have hXt:aI X (aR X 27) ⟨yk,yn,ys,yA,yl,yc⟩ t:=by
    have hne:∀b,fL W2.heap.size W4 b->X.heap[b]?=W4.heap[b]?:=fun b hb=>by rw[hX];exact aM _ _ _ _ (by have:=HT4.2;have:=hb.1;omega)
    exact HT4.1.keep (fun b hb=>hb.2.keep (hne b hb)) hne
   rw[<-hX]
   clear hX s0 s1 s2 s3 q0 q1 q2 q3 qf hlt
   obtain⟨mb,hmb⟩:∃mb,mb=r.mb:=⟨_,rfl⟩
   have hXu:aE u X:=HE.2.2.trans (hXb.mono HE.2.2.size)
   have HSV:Hid (∀w,(aE u w/\w.heap[tb]?=X.heap[tb]?)->(w.cell? (ak rb 0)=some (ah mb)/\w.cell? (ak mb 1)=some (ah ob))/\w.cell? (ak tb 0)=some (ae yk)/\w.cell? (ak tb 1)=some (ae yn)/\w.cell? (ak tb 2)=some (af ys)/\w.cell? (ak tb 3)=some (.slice yA yl yc)):=ad fun w hw=>by
    have hr:=HH.1.later hw.1
    obtain⟨a,b,c,d,-⟩:=aH (hw.2.trans hXz)
    have hm:=hr.mach.cells.1.2.1
    rw[<-hmb]at hm
    exact⟨⟨(hr.run.get 0).trans (by rw[hmb];rfl),hm⟩,a,b,c,d⟩
   have dx:=(Below.refl X.heap.size X).drew
   have d0:aE u X.drew/\X.drew.heap[tb]?=X.heap[tb]?:=⟨hXu.drew,rfl⟩
   have hrn:eM nb mp X.drew []:=(HE.2.1.later hXb).later dx
   have hbb:X.drew.heap[u.heap.size]?=some (.cells #[.pointer none,aj] 398 (0,0)):=(hXb.block _ (ap HE.1).1).trans HE.1
   have HREN:Hid (Calls prog 240 #[ah nb,.agg #[ae yk,ae yn,af ys,.slice yA yl yc]] X.drew fun e w5=>∃zk zn zs zA zl zc,e=.returned (.agg #[ae zk,ae zn,af zs,.slice zA zl zc])/\(aE u w5/\w5.heap[tb]?=X.heap[tb]?)/\Hid (aI w5 (aR w5 27) ⟨zk,zn,zs,zA,zl,zc⟩ (bA t)/\w5.heap[u.heap.size]?=some (.cells #[.pointer none,aj] 398 (0,0))/\w5.heap[xb]?=some (.cells #[.string ⟨#[88]⟩,ae nv] 39 (0,0)))):=ad (by
    have hsz:=HH.2.2.2.2.2.2.2.2.1
    refine(uT nb mp t.size t X.drew ⟨yk,yn,ys,yA,yl,yc⟩ [] aC (hXt.move fun b hb=>⟨hb.keep (dx.block b hb.lt),dx.block b hb.lt⟩) hrn HH.2.2.2.2.2.2.1 HH.2.2.2.2.2.2.2.1 (by simp;omega)).mono ?_
    rintro e w5 ⟨⟨zk,zn,zs,zA,zl,zc⟩,rfl,k1,-,k3⟩
    have hty:∀ {b t'},aR X.drew t' b->t'≠338->w5.heap[b]?=X.drew.heap[b]?:=fun {b t'} hb hn=>k3.block b hb.lt fun e=>e.elim (hrn.ne hb hn).1 (hrn.ne hb hn).2
    refine⟨zk,zn,zs,zA,zl,zc,rfl,⟨hXu.drew.trans (k3.below hXu.drew.size fun k hk e=>by have:=HNB.out;rcases e with e|e<;>omega),hty (t':=27) ⟨_,hXz⟩ (by decide)⟩,ad ⟨k1.move fun b hb=>⟨hb.2,rfl⟩,(hty (t':=398) ⟨_,hbb⟩ (by decide)).trans hbb,(hty (t':=39) ⟨_,hXx⟩ (by decide)).trans hXx⟩⟩)
   have HPUT:Hid (∀w zk zn zs zA zl zc,(aE u w/\w.heap[tb]?=X.heap[tb]?)->Hid (aI w (aR w 27) ⟨zk,zn,zs,zA,zl,zc⟩ (bA t)/\w.heap[u.heap.size]?=some (.cells #[.pointer none,aj] 398 (0,0))/\w.heap[xb]?=some (.cells #[.string ⟨#[88]⟩,ae nv] 39 (0,0)))->Calls prog 16 #[.agg #[ae zk,ae zn,af zs,.slice zA zl zc],ae 1,ah ob] w fun e w'=>e=.returned (.tuple #[af txt,ae 0])/\(aE u w'/\w'.heap[tb]?=X.heap[tb]?)/\Hid (w'.heap[u.heap.size]?=some (.cells #[.pointer none,aj] 398 (0,0))/\w'.heap[xb]?=some (.cells #[.string ⟨#[88]⟩,ae nv] 39 (0,0)))):=ad fun w zk zn zs zA zl zc hw hq=>by
    refine(HPT.out w ⟨zk,zn,zs,zA,zl,zc⟩ hw.1 hq.1).mono ?_
    rintro e w' ⟨rfl,h1⟩
    exact⟨rfl,⟨hw.1.trans (h1.mono hw.1.size),(h1.block _ (ap (hw.2.trans hXz)).1).trans hw.2⟩,ad ⟨(h1.block _ (ap hq.2.1).1).trans hq.2.1,(h1.block _ (ap hq.2.2).1).trans hq.2.2⟩⟩
   clear hXz hXb hXx hXt hXu dx hrn hbb hmb HB4 HB2 HT4
   go_region_held3 (fun w=>(w.cell? (ak rb 0)=some (ah mb)/\w.cell? (ak mb 1)=some (ah ob))/\w.cell? (ak tb 0)=some (ae yk)/\w.cell? (ak tb 1)=some (ae yn)/\w.cell? (ak tb 2)=some (af ys)/\w.cell? (ak tb 3)=some (.slice yA yl yc))
    (first|(with_reducible exact HSV.out _ (by assumption)))
    (first|(go_at_call 240;with_reducible refine HREN.out.mono ?_;rintro e w5 ⟨zk,zn1,zs,zA,zl,zc,rfl,d1,k1⟩)|(go_at_call 16;with_reducible refine(HPUT.out _ _ _ _ _ _ _ (by assumption) (by assumption)).mono ?_;rintro e w6 ⟨rfl,d2,k2⟩))
   have x0:w6.cell? (ak xb 0)=some (.string ⟨#[88]⟩):=(cell_of_row _ _ 0 _ _ _ k2.2).trans rfl
   have HB6:Hid (Lib.IsBuilder 398 5 u.heap.size u.heap.size (Lib.byteCells []) w6/\aE u w6):=ad ⟨DM k2.1 aC,d2.1⟩
   clear d0 d1 d2 k1 k2 HSV HREN HPUT
   go_wp2_with fail
   refine(iG _ _ _ _ HB6.1).mono ?_
   rintro e w7 ⟨rfl,rfl⟩
   go_wp2_with fail
   refine(fE _ _ [] [88] _ HB6.1 (by simp) HB6.2.size).mono ?_
   rintro e w8 ⟨⟨v8,rfl⟩,k1,k2⟩
   have HB8:=ad (aD k1 (HB6.2.trans k2))
   clear k1 k2 x0 HB6
   go_wp2_with fail
   refine(fE _ _ ([]++[88]) [32,61,32] _ HB8.1 (by simp) HB8.2.size).mono ?_
   rintro e w9 ⟨⟨v9,rfl⟩,k1,k2⟩
   have HB9:=ad (aD k1 (HB8.2.trans k2))
   clear k1 k2 HB8
   go_wp2_with fail
   refine(fE _ _ (([]++[88])++[32,61,32]) txt _ HB9.1 (by have:=HH.2.2.2.2.2.2.2.2.2.2.2.1;simp;omega) HB9.2.size).mono ?_
   rintro e w10 ⟨⟨v10,rfl⟩,k1,k2⟩
   have HB10:Hid (Lib.IsBuilder 398 5 u.heap.size u.heap.size (Lib.byteCells (gS txt)) w10/\aE u w10):=ad ⟨k1,HB9.2.trans k2⟩
   clear k1 k2 HB9
   go_wp2_with fail
   go_roundw
   case rel=>exact .inr ⟨rfl,HB10⟩
   case measure=>decide
  ·obtain⟨bl,hbl⟩:∃bl:Int,bl=((gS txt).length:Nat):=⟨_,rfl⟩
   have hb0:(bl==0)=false:=beq_false_of_ne (by rw[hbl];unfold gS;simp;omega)
   have HBL:Hid (Calls prog 282 #[ah u.heap.size] wr fun e w'=>e=.returned (ae bl)/\w'=wr):=ad (by
    rw[hbl]
    exact iG _ _ _ _ HE.1)
   clear hbl
   go_wp2_with fail
   refine HBL.mono ?_
   rintro e w1 ⟨rfl,rfl⟩
   go_wp2_with fail
   refine(Tryz.Builder_String_any _ _ (gS txt) _ HE.1 HE.2.size).mono ?_
   rintro e w2 ⟨rfl,h3⟩
   have HB2:=ad (HE.2.trans h3)
   have HR2:=ad (HH.1.later HB2.out)
   clear h3
   go_wp2_with fail
   refine(gJ w2 rb r l 1 (gS txt) HR2.run HR2.ev HR2.few.1 HR2.few.2.1).mono ?_
   rintro e w3 ⟨rfl,v3,g1,g2,g3⟩
   have HR3:Hid (aT w3 rb {r with ev:=v3} (l++[(1,gS txt)]) db ob spent over/\TF rI u w3):=ad ⟨⟨g1,g2,(g3.block ⟨_,HR2.mach⟩ (by decide)).trans HR2.mach,by simpa using HH.2.2.2.2.2.2.2.2.2.2.1,HR2.few.2⟩,(TF.of_below rI HB2.out).trans (g3.mono (by decide))⟩
   clear g1 g2 g3
   obtain⟨an,han⟩:∃an,an=r.ans:=⟨_,rfl⟩
   have HAN:=ad han
   have c5:w3.cell? (ak rb 5)=some (ae an):=(HR3.1.run.get 5).trans (by rw[han];rfl)
   obtain⟨mo,hmo⟩:∃mo,mo=r.most:=⟨_,rfl⟩
   have hwa:IntKind.i64.wrap (an+1)=an+1:=IntWalk.i64_in _ (by have:=HH.2.2.2.2.2.2.2.2.2.1;rw[<-han]at this;omega)
   have cf:=HR3.1.run.fz
   have hlt:=HR3.1.run.lt
   obtain⟨X,hX⟩:∃X,X=w3.setCell (ak rb 5) (ae (an+1)):=⟨_,rfl⟩
   have h9:=HR3.1.put (r':= {r with ev:=v3,ans:=an+1}) 5 (ae (an+1)) rfl rfl rfl
   rw[<-hX]at h9
   have HX:Hid (aT X rb {r with ev:=v3,ans:=an+1} (l++[(1,gS txt)]) db ob spent over/\TF rI u X):=ad ⟨h9.1,HR3.2.trans (h9.2.mono (by decide))⟩
   clear h9 han
   go_upto_region 27 with fail
   rw[<-hX]
   clear hX c5 cf hlt
   have d5:X.cell? (ak rb 5)=some (ae (an+1)):=HX.1.run.get 5
   have d4:X.cell? (ak rb 4)=some (ae mo):=(HX.1.run.get 4).trans (by show some (ae r.most)=_;rw[hmo])
   have HQ:Hid (P (.returned (ae (if an+1=mo then 3 else 1))) X.drew):=ad (by
    rw[HP.out,<-HAN.out,hmo]
    have hb:aE X X.drew:=aA.drew
    exact⟨rfl,v3,HX.1.later hb,HX.2.later hb⟩)
   have hdd:((an+1==mo)=true/\an+1=mo)\/((an+1==mo)=false/\¬an+1=mo):=by
    by_cases e:an+1=mo
    ·exact .inl ⟨by simpa using e,e⟩
    ·exact .inr ⟨beq_false_of_ne e,e⟩
   clear hmo
   go_region
   rcases hdd with⟨hd1,hd2⟩|⟨hd1,hd2⟩
   ·rw[if_pos hd2]at HQ
    clear hd2
    go_wp2_with fail
    exact HQ.out
   ·rw[if_neg hd2]at HQ
    clear hd2
    go_wp2_with fail
    exact HQ.out
end
section
open Go.RowKit Go.Maps Go.Lib Go.Sort
variable[Base]
structure jO (w:World):Prop where
 env:mO w
 kinds:0<Base.b
 space:1<Base.b
 max:3<Base.b
 le:Base.b<=w.heap.size
theorem jO.low {w w':World} (h:jO w) (hb:Below Base.b w w') (hs:w.heap.size<=w'.heap.size):jO w':=by
 obtain⟨m,hm⟩:=h.env.max
 refine⟨⟨⟨m,?_⟩,h.env.kinds.keep (hb.block _ h.kinds),gO h.env.tab (hb.block _ h.space)⟩,h.kinds,h.space,h.max,Nat.le_trans h.le hs⟩
 exact(World.cell?_of_block (a:=⟨3,0,none⟩) (hb.block _ h.max)).trans hm
theorem jO.later {w w':World} (h:jO w) (hb:aE w w'):jO w':=h.low (hb.mono h.le) hb.size
theorem jO.tf {tys:List TypeId} {w w':World} (h:jO w) (hf:TF tys w w'):jO w':=h.low (hf.low h.le aC) hf.size
def Ev (w:World) (bt:Nat):Prop:=∃bm,cm w bt bm dI/\aR w 89 bt
theorem Ev.tf {tys:List TypeId} {w w':World} {bt:Nat} (h:Ev w bt) (hf:TF tys w w') (ht:89∉tys):Ev w' bt:=by
 obtain⟨bm,h1,h2⟩:=h
 exact⟨bm,h1.keep (hf.block h2 ht) (hf.fr.block _ h1.map.lt fun e=>h1.map.ne e.2.choose_spec.2 rfl),hf.ty h2 ht⟩
omit[Base]in
theorem ib:yK (dI.map mD)/\dI.length<=256:=by
 refine⟨?_,by decide+kernel⟩
 unfold yK
 decide+kernel
theorem lG (w:World) (hE:jO w) (T:List UInt8) (N:Nat) (hT:tD T) (hN:vp (gF T).1 N) (x:TV) (A:Option Addr) (n c:Nat) (most:Int) (Q:Value->List UInt8->World->Prop)
 (hQ:∀v over u u',Q v over u->aE u u'->Q v over u')
 (hRun:∀w0 W mb db dmb ob,aE w W->Base.b<=mb->dF W mb db ob 0 []->uz w0 db dmb N W->Ev W ob->Calls prog 21 #[ah mb,aU x,.slice A n c,ae most] W fun e w'=>
   ∃v spent over,e=.returned (.tuple #[v,ae 0])/\dF w' mb db ob spent over/\TF iN W w'/\Q v over w'):
 Calls prog 8 #[af T,aU x,.slice A n c,ae most] w fun e w'=>∃v over,e=.returned (.tuple #[v,.bool (over !=[])])/\Q v over w'/\TF iN w w':=by
 refine aa fun P hP=>?_
 have HP:=ad hP
 have HE:=ad hE
 have HN:=ad hN
 have HQ:=ad hQ
 have HRUN:=ad hRun
 have HT:=ad hT
 obtain⟨U,hU⟩:∃U,U=w.alloc (.cells #[ae x.k,ae x.n,af x.s,.slice x.A x.len x.cap] 27):=⟨_,rfl⟩
 have hbU:aE w U:=by rw[hU];exact aB
 have hz:U.heap[w.heap.size]?=some (.cells #[ae x.k,ae x.n,af x.s,.slice x.A x.len x.cap] 27 (0,0)):=by rw[hU];exact az
 have HBU:=ad hbU
 have HZ:=ad hz
 clear hP hE hN hQ hRun hT hbU hz
 unfold aU
 go_enter func8,ntmps8
 go_upto_region 1 with fail
 rw[<-hU]
 clear hU
 have HE1:=ad (HE.later HBU.out)
 go_wp2_with fail
 refine(mM U HE1.env.kinds HE1.env.tab).mono ?_
 rintro e w1 ⟨bt,bm,rfl,h1,-,-,-,hb1,h2⟩
 have HT1:=ad (aD h1 h2)
 have HE2:=ad (HE1.later hb1)
 have HB1:=ad (HBU.trans (hb1.mono HBU.size))
 have HZ1:=ad ((hb1.block _ (ap HZ.out).1).trans HZ.out)
 clear h1 h2 hb1 HE1 HBU HZ
 go_wp2_with fail
 refine(AC w1 T N HT.out HE2.env HN.out).mono ?_
 rintro e w2 ⟨db,dmb,rfl,hl2⟩
 have hb2:aE w1 w2:=by
  obtain⟨_,_,_,_,_,h,-⟩:=hl2
  exact h.below
 have HT2:=ad (aD (HT1.1.later hb2) (show aR w2 89 bt from(show aR w1 89 bt from HT1.2).keep (hb2.block _ HT1.1.lt)))
 have HE3:=ad (HE2.later hb2)
 have HB2:=ad (HB1.trans (hb2.mono HB1.size))
 have HZ2:=ad ((hb2.block _ (ap HZ1.out).1).trans HZ1.out)
 have HL2:=ad hl2
 clear hb2 hl2 HT1 HE2 HB1 HZ1
 go_wp2_with fail
 refine(zt w2 db bt).mono ?_
 rintro e w3 ⟨mb,rfl,hmb,hM,hb3⟩
 have HT3:=ad (aD (HT2.1.later hb3) (HT2.2.keep (hb3.block _ HT2.1.lt)))
 have HB3:=ad (HB2.trans (hb3.mono HB2.size))
 have hz3:=(hb3.block _ (ap HZ2.out).1).trans HZ2.out
 obtain⟨z0,z1,z2,z3,-⟩:=aH hz3
 have HE4:=ad (HE3.later hb3)
 have HR:=ad (HRUN.out w1 w3 mb db dmb bt HB3.out (Nat.le_trans HE3.le hmb) hM (HL2.later hb3) ⟨bm,HT3.1,HT3.2⟩)
 unfold aU at HR
 clear hmb hM hb3 hz3 HT2 HB2 HZ2 HE3 HL2 HRUN
 go_wp2_with fail
 refine HR.mono ?_
 rintro e w4 ⟨v,spent,over,rfl,hM4,hf4,hq4⟩
 have HE5:=ad (HE4.tf hf4)
 have HT4:Hid (cm w4 bt bm dI):=ad (HT3.1.keep (hf4.block HT3.2 (by decide)) (hf4.fr.block _ HT3.1.map.lt fun e=>HT3.1.map.ne e.2.choose_spec.2 rfl))
 have HF4:=ad ((TF.of_below iN HB3.out).trans hf4)
 have HM4:=ad (aD hM4 hq4)
 clear hM4 hq4 hf4 z0 z1 z2 z3 HR HT3 HB3 HE4
 go_wp2_with fail
 refine(py w4 HE5.env.kinds HE5.env.tab).mono ?_
 rintro e w5 ⟨bt2,bm2,rfl,h5,-,-,-,hb5⟩
 have HT5:=ad (aD h5 (HT4.later hb5))
 have HB5:=ad hb5
 clear h5 hb5 HT4 HE5
 go_wp2_with fail
 refine(mG w5 bt2 bm2 dI HT5.1 (by have:=ib.2;omega)).mono ?_
 rintro e w6 ⟨v1,l1,rfl,hs1,hp1,ho1,hb6⟩
 have HT6:=ad (HT5.2.later hb6)
 have HB6:=ad (HB5.trans (hb6.mono HB5.size))
 have HS1:=ad (aD hs1 (aD hp1 ho1))
 clear hs1 hp1 ho1 hb6 HT5 HB5
 go_wp2_with fail
 refine(mG w6 bt bm dI HT6.out (by have:=ib.2;omega)).mono ?_
 rintro e w7 ⟨v2,l2,rfl,hs2,hp2,ho2,hb7⟩
 obtain rfl:l1=l2:=sR (HS1.2.1.trans hp2.symm) HS1.2.2 ho2 (fun a ha b hb=>ib.1 a (hp2.mem_iff.1 ha) b (hp2.mem_iff.1 hb))
 have HB7:=ad (HB6.trans (hb7.mono HB6.size))
 have hll:l1.length<=256:=by
  have:=hp2.length_eq
  rw[List.length_map]at this
  have:=ib.2
  omega
 have HS7:=ad (aD (HS1.1.below hb7|>.up hb7.size) hs2)
 clear hs2 hp2 ho2 hb7 HT6 HB6 HS1
 obtain⟨A1,cap1,rfl,hA1⟩:=HS7.1.shape
 obtain⟨A2,cap2,rfl,hA2⟩:=HS7.2.shape
 have HA1:=ad hA1
 have HA2:=ad hA2
 clear hA1 hA2 HS7
 have HM7:=ad (HM4.1.later HB7.out)
 have HQ7:Hid (Q v over w7/\TF iN w w7):=ad ⟨HQ.out v over w4 w7 HM4.2 HB7.out,HF4.later HB7.out⟩
 clear HM4 HF4 HB7
 go_wp2_with fail
 go_loopw [17,18] (fun ch i wr=>∃k nq:Nat,k<=l1.length/\ch=.bool false/\i=ae k/\wr=w7.drewN nq) (fun _ i _=>l1.length-(intOf i).toNat)
 case atStart=>exact⟨0,0,Nat.zero_le _,rfl,rfl,rfl⟩
 case round=>
  obtain⟨k,nq,hk,rfl,rfl,rfl⟩:=hrel
  by_cases hlt:k<l1.length
  ·have hne:l1≠[]:=by rintro rfl;simp at hlt
   obtain⟨b1,o1,e1,hb1,hc1⟩:=HA1.out hne
   obtain⟨b2,o2,e2,hb2,hc2⟩:=HA2.out hne
   have hx:=au hlt
   generalize l1[k]=x at hx
   have c0:=hc1 k x hx 0 _ rfl
   have c1:=hc1 k x hx 1 _ rfl
   have c2:=hc1 k x hx 2 _ rfl
   have d0:=hc2 k x hx 0 _ rfl
   have d1:=hc2 k x hx 1 _ rfl
   have d2:=hc2 k x hx 2 _ rfl
   simp only[Nat.add_zero]at c0 d0
   have hlt':(k:Int)<(l1.length:Int):=by omega
   clear hc1 hc2 hx
   subst e1 e2
   go_wp2_with fail
   go_quiet (fail)
   go_wp2
   go_roundw
   case rel=>exact⟨k+1,_,hlt,rfl,by go_num,rfl⟩
   case measure=>simp[intOf];omega
  ·obtain rfl:k=l1.length:=by omega
   have hng:¬(l1.length:Int)<(l1.length:Int):=by omega
   have HMD:Hid (dF (w7.drewN nq) mb db bt spent over):=HM7
   have HQD:Hid (Q v over (w7.drewN nq)/\TF iN w (w7.drewN nq)):=ad ⟨HQ.out v over w7 _ HQ7.1 ⟨rfl,rfl,rfl,aC,fun _ _=>rfl⟩,HQ7.2.later ⟨rfl,rfl,rfl,aC,fun _ _=>rfl⟩⟩
   clear HM7 HQ7 hlt
   go_wp2_with fail
   refine(yJ _ mb db bt spent over HMD.out).mono ?_
   rintro e w9 ⟨rfl,rfl⟩
   go_wp2_with fail
   ·rename_i hov
    show P (.returned (.tuple #[v,.bool false])) _
    rw[HP.out]
    exact⟨v,over,by rw[hov];rfl,HQD.out⟩
   ·rename_i hov
    show P (.returned (.tuple #[v,.bool true])) _
    rw[HP.out]
    exact⟨v,over,by rw[show(over !=[])=true by simpa using hov],HQD.out⟩
end
section
open Go.RowKit Go.Maps
section
variable {db mb:Nat} {u:World}
theorem uz.two {w:World} (h:uz w db mb 2 u):∃pb A c cls ver ov,mL w.heap.size db mb pb A c cls ver ov u:=by
 obtain⟨es,A,c,cls,ov,h1,h2,h3⟩:=h
 rcases h1.pr with⟨-,-,h,-⟩|⟨pb,ver,h4,h5,-⟩
 ·rw[h]at h2
  cases h2
 ·refine⟨pb,A,c,cls,ver,ov,?_,h5,?_,h1.od,h2,h3,h1.facts⟩
  ·have:=h1.db'
   rw[h4,h2]at this
   exact this
  ·have:=h1.cl
   rw[h2]at this
   exact this
end
end
end Go.Proofs.YtigeofkllldilaaGreatDoor
