import Derived.Test.YtigeofkllldilaaGreatDoorJM00
import Derived.Lib.SmallJoins
import Derived.Deep.DeepWitnessRowRef
import Derived.LaidMore
import Derived.Stop.LaidErr
import Derived.Test.YtigeofkllldilaaGreatDoorCards
import Derived.SevenTiedAt
set_option maxHeartbeats 32000000
set_option maxRecDepth 100000
set_option linter.unusedSectionVars false
open Go.Proofs.Tryz
namespace Go.Proofs.YtigeofkllldilaaGreatDoor
section
open Go.ChangeShapes Go.WideShapes Go.ChangeAt Go.RowKit
section
variable {H:Type} {enc:TypeId×Value->H} {P:Program}
theorem jv (hl:laidOutB P=true) {W W':World} (hb:aE W W'):∀(ts:List TypeId) (vs:List Value) (ds:List (DataW H)) (ps:List MemPlace),(∀t∈ts,P.readableRec t=true/\t<P.types.size)→
 DataW.TrodAll enc P W 0 (fun _=>true) true ts vs ds ps->(∀x∈ps,x.block<W.heap.size)->DataW.TrodAll enc P W' 0 (fun b=>decide (b<W.heap.size)) true ts vs ds ps
 |[],[],[],_,_,h,_=>h
 |[],[],_::_,_,_,h,_=>h.elim
 |[],_::_,_,_,_,h,_=>h.elim
 |_::_,[],_,_,_,h,_=>h.elim
 |_::_,_::_,[],_,_,h,_=>h.elim
 |t::ts,v::vs,d::ds,ps,ht,h,hlt=>by
  obtain⟨p,q,h1,h2,rfl⟩:=h
  exact⟨p,q,Below.trod hl (ht t (List.mem_cons_self ..)).1 (ht t (List.mem_cons_self ..)).2 h1 hb (fun x hx=>hlt x (List.mem_append_left _ hx)),
   jv hl hb ts vs ds q (fun t' h'=>ht t' (List.mem_cons_of_mem _ h')) h2 (fun x hx=>hlt x (List.mem_append_right _ hx)),rfl⟩
theorem zr (hl:laidOutB P=true) {f:Func} {s:ChangeSpec} {W W':World} {args:Array Value} {ds gs:List (DataW H)} {before:List MemPlace} {tb:TypeId} (hbool:P.underlying tb=some .bool) (hres:f.resultTypes=#[tb])
 (hv:s.vars=[]) (hW:DataW.Whole enc P f.params.toList s.vars false W args.toList ds gs before) (hb:aE W W')
 (hts:∀t∈f.params.toList,P.readableRec t=true/\t<P.types.size) (h1:(s.fn H (ds++gs)).results=[.lit (.bool true)]) (h2:(s.fn H (ds++gs)).args=ds) (h3:(s.fn H (ds++gs)).vars=[]):
 s.post enc P f false true false false W args (.bool true) W':=by
 have hlt:=hW.lt
 have hW':=hW
 obtain⟨p,q,hA,hV,rfl,_,_⟩:=hW
 rw[hv]at hV
 have hV':=hV
 obtain⟨hg,hq⟩:=trodVars_none hV
 subst hg
 subst hq
 refine⟨ds,[],_,[],p,[],hW',?_,?_,?_,hb.frame _,fun h=>by cases h⟩
 ·rw[h1,hres]
  exact trodAll_mk1 (shut_bool hbool true)
 ·rw[h2]
  exact jv hl hb _ _ _ _ hts hA (fun x hx=>hlt x (List.mem_append_left _ hx))
 ·rw[hv,h3]
  rfl
end
end
section
open Go.ChangeShapes Go.WideShapes Go.ChangeAt Go.RowKit Go.Deep
theorem lL {α:Type} {Q:Nat->α->Prop} :∀(n:Nat),(∀i,i<n->∃x,Q i x)->∃l:List α,l.length=n/\∀i x,l[i]?=some x->Q i x
 |0,_=>⟨[],rfl,fun i x h=>by simp at h⟩
 |n+1,h=>by
  obtain⟨l,hl,hq⟩:=lL n (fun i hi=>h i (by omega))
  obtain⟨x,hx⟩:=h n (by omega)
  refine⟨l++[x],by simp[hl],fun i y hy=>?_⟩
  by_cases hi:i<l.length
  ·rw[List.getElem?_append_left hi]at hy
   exact hq i y hy
  ·have:i=l.length:=by
    have h1:=(aq hy).1
    simp at h1
    omega
   subst this
   simp at hy
   subst hy
   rw[hl]
   exact hx
theorem qp {w:World} {a:Addr} {v:Value} (h:w.cell? a=some v):a=⟨a.block,a.off,none⟩:=by
 obtain⟨b,o,s⟩:=a
 cases s with
 |none=>rfl
 |some x=>
  unfold World.cell? at h
  simp only at h
  split at h
  ·simp at h
  ·cases h
theorem si (b o i:Nat):(⟨b,o,none⟩:Addr).add i=⟨b,o+i,none⟩:=by unfold Addr.add;split<;>simp_all
theorem Ca {w:World} {base:Nat} {a:Addr} {k len:Nat} (hk:0<k) (h:∀i,i<len->∃cs,w.cells? base (a.add (i*k)) k=some cs) (hl:0<len):a=⟨a.block,a.off,none⟩/\a.block<w.heap.size:=by
 obtain⟨cs,hc⟩:=h 0 hl
 obtain⟨_,h1,h2⟩:=World.cells?_some hc
 have h3:=h2 0 hk
 have h4:cs[0]?=some (cs[0]'(by omega)):=au _
 rw[h4]at h3
 have e:(a.add (0*k)).add 0=a:=by simp[Addr.add]
 rw[e]at h3
 exact⟨qp h3,World.block_lt_of_cell? w _ h3⟩
open Go.ChangeShapes Go.WideShapes Go.ChangeAt Go.RowKit
def Eu:List Int:=[0,1,56,2,57,49,28,3,61,58,42,50,38,29,17,4,62,47,59,36,45,43,51,22,53,39,33,30,24,18,12,5,63,55,48,27,60,41,37,16,46,35,44,21,52,32,23,11,54,26,40,15,34,20,31,10,25,14,19,9,13,8,7,6]
theorem EU:prog.globalNamed "math/bits.deBruijn64tab"=some 6:=by kernel_rfl
theorem yH:(prog.globals[6]?).map (·.type)=some 534:=by kernel_rfl
theorem rO:prog.cellsOf 5=1:=by kernel_rfl
theorem tr:prog.cellsOf 534=64:=by kernel_rfl
theorem rx {W:World} {rest:List (String×DataW Unit)} (h:laidMet prog (("math/bits.deBruijn64tab",Rows.laid_math_bits_deBruijn64tab)::rest) W):W.cell? (ak 6 15)=some (.int .u8 4):=
 (Lib.tabIs_of_head (zs:=Eu) (rest:=rest) EU yH underlying534 underlying5 rO tr h).cell EU 15 (by decide)
end
namespace TopThrowC
theorem t_inPlace:(Rows.topThrowRow.inPlace==Tryz.pinned.checked.prog.inPlace 3)=true:=by kernel_rfl
end TopThrowC
namespace TopThrowC
theorem t_named:(Rows.topThrowRow.named==Tryz.pinned.checked.prog.varsNamed 3)=true:=by kernel_rfl
end TopThrowC
end Go.Proofs.YtigeofkllldilaaGreatDoor
