import Derived.Test.YtigeofkllldilaaGreatDoorJM07
import Derived.Test.YtigeofkllldilaaGreatDoorJM01
set_option maxHeartbeats 32000000
set_option maxRecDepth 100000
set_option linter.unusedSectionVars false
open Go.Proofs.Tryz
namespace Go.Proofs.YtigeofkllldilaaGreatDoor
section
open Go.RowKit
theorem jg {c d:UInt8} (h:c≠d):((c.toNat:Int)==(d.toNat:Int))=false:=by
 rw[beq_eq_false_iff_ne]
 intro e
 exact h (UInt8.toNat_inj.1 (by omega))
theorem kJ (l:List UInt8) (k:Nat) (h:k<l.length):∃c,l.drop k=c::l.drop (k+1)/\(⟨l.toArray⟩:ByteArray)[k]'(by show k<l.toArray.size;simpa using h)=c/\l[k]?=some c:=
 ⟨l[k],List.drop_eq_getElem_cons h,rfl,au h⟩
open Go.RowKit Go.Maps
theorem ld (l:List UInt8) (k:Nat):(⟨l.toArray⟩:ByteArray).extract k l.length=⟨(l.drop k).toArray⟩:=by
 apply ByteArray.ext
 rw[ByteArray.data_extract]
 apply Array.ext'
 rw[Array.toList_extract]
 simp only[List.extract]
 rw[List.take_of_length_le (by simp)]
theorem wF (l:List UInt8) (a b:Nat):(⟨l.toArray⟩:ByteArray).extract a b=⟨((l.drop a).take (b-a)).toArray⟩:=by
 apply ByteArray.ext
 rw[ByteArray.data_extract]
 apply Array.ext'
 rw[Array.toList_extract]
def bK (c:UInt8):List Value:=[.int .u8 (c.toNat:Int)]
theorem dy (c:UInt8):(bK c).length=1:=rfl
theorem dd (c:UInt8):∀u∈bK c,u.oneCell'=true:=by
 intro u hu
 simp only[bK,List.mem_singleton]at hu
 subst hu
 rfl
theorem lv:∃i z,prog.info? 5=some i/\i.zero=some z/\i.size=1/\i.bytes=1/\z.cells.size=1:=by
 refine⟨_,_,rfl,rfl,?_,?_,?_⟩<;>kernel_rfl
theorem aS.string {P:Program} {w:World} {B:Nat} {src dst e:TypeId} (hs:P.underlying src=some (.slice e)) (he:P.underlying e=some (.int .u8)) (hd:P.underlying dst=some .string)
 {v:Value} {l:List UInt8} (h:aS w B e 1 bK v l):(convert src dst v).run P w=.ok (af l) w:=by
 rcases Classical.em (l=[])with rfl|hne
 ·obtain⟨A,cap,rfl⟩:=h.shape
  cases A with
  |none=>exact run_convert_bytes_nil w src e hs he _ _ dst hd
  |some a=>exact run_convert_bytes_back w src dst e a cap [] hs he hd (fun j hj=>by simp at hj)
 ·obtain⟨g,cap,rfl,_,_,_,hc⟩:=h.cells dy hne
  refine run_convert_bytes_back w src dst e _ cap l hs he hd (fun j hj=>?_)
  have:=(hc j l[j] (au hj) 0 _ rfl).1
  have hplain:(⟨g,0,none⟩:Addr).add j=⟨g,j,none⟩:=by unfold Addr.add;split<;>simp_all
  rw[hplain]
  simpa using this
theorem ey (w:World) (cs:Array Value) (t:TypeId) (i:Nat) (u:Value) (h:cs[i]?=some u):(w.alloc (.cells cs t)).cell? (ak w.heap.size i)=some u:=by
 rw[World.cell?_alloc_at _ _ _ _ rfl]
 exact h
end
end Go.Proofs.YtigeofkllldilaaGreatDoor
