import Derived.WalkSmall
import Derived.Deep.OwnRows
import Derived.Test.YtigeofkllldilaaGreatDoorProg
import Derived.Laws.AppendOwnNone
import Derived.Deep.AppendLies
import Derived.Deep.RegionLaw
import Derived.Lib.Hide
set_option maxHeartbeats 32000000
set_option maxRecDepth 100000
set_option linter.unusedSectionVars false
open Go.Proofs.Tryz
namespace Go.Proofs
open Go.RowKit
theorem aa {F:(Ending->World->Prop)->Prop} {R:Ending->World->Prop} (h:∀P,P=R->F P):F R:=h _ rfl
theorem ad {p:Prop} (h:p):RowKit.Hid p:=h
abbrev ae (n:Int):Value:=.int .i64 n
abbrev af (l:List UInt8):Value:=.string ⟨l.toArray⟩
abbrev ah (b:Nat):Value:=.pointer (some ⟨b,0,none⟩)
abbrev ai:Value:=.string ⟨#[]⟩
abbrev aj:Value:=.slice none 0 0
abbrev ak (b o:Nat):Addr:=⟨b,o,none⟩
abbrev al (b n c:Nat):Value:=.slice (some ⟨b,0,none⟩) n c
abbrev am:Ending:=.returned (.tuple #[])
theorem ap {α:Type _} {i:Nat} {b:α} {xs:Array α} (h:xs[i]?=some b):∃h,xs[i]=b:=Array.getElem?_eq_some_iff.1 h
theorem aq {α:Type _} {i:Nat} {b:α} {xs:List α} (h:xs[i]?=some b):∃h,xs[i]=b:=List.getElem?_eq_some_iff.1 h
theorem au {α:Type _} {l:List α} {i:Nat} (h:i<l.length):l[i]?=some l[i]:=List.getElem?_eq_getElem h
theorem av (w:World) (a:Addr) (u:Value) (k:Nat):k≠a.block->(w.setCell a u).heap[k]?=w.heap[k]?:=Below.heap_setCell w a u k
theorem aw (w:World) (o:Obj) (k:Nat):k<w.heap.size->(w.alloc o).heap[k]?=w.heap[k]?:=Below.heap_alloc w o k
theorem az {w:World} {o:Obj} :(w.alloc o).heap[w.heap.size]?=some o:=heap_alloc_new w o
theorem aA {B:Nat} {w:World} :Below B w w:=Below.refl B w
theorem aB {w:World} {o:Obj} :Below w.heap.size w (w.alloc o):=(Below.refl _ _).alloc (Nat.le_refl _) o
theorem aC {n:Nat} :n<=n:=Nat.le_refl n
theorem aD {a b:Prop} (x:a) (y:b):a/\b:=⟨x,y⟩
abbrev aE (w u:World):Prop:=Below w.heap.size w u
end Go.Proofs
namespace Go.Proofs.YtigeofkllldilaaGreatDoor
section
open Go.RowKit
structure Fr (S:Nat->Prop) (w w':World):Prop where
 os:w'.os=w.os
 tape:w'.tape=w.tape
 output:w'.output=w.output
 size:w.heap.size<=w'.heap.size
 block:∀k,k<w.heap.size->¬S k->w'.heap[k]?=w.heap[k]?
section
variable {S S':Nat->Prop} {w w' w'':World}
theorem Fr.refl (S:Nat->Prop) (w:World):Fr S w w:=⟨rfl,rfl,rfl,aC,fun _ _ _=>rfl⟩
theorem Fr.trans (h:Fr S w w') (k:Fr S w' w''):Fr S w w'':=
 ⟨k.os.trans h.os,k.tape.trans h.tape,k.output.trans h.output,Nat.le_trans h.size k.size,fun i hi hs=>(k.block i (Nat.lt_of_lt_of_le hi h.size) hs).trans (h.block i hi hs)⟩
theorem Fr.mono (h:Fr S w w') (hs:∀k,k<w.heap.size->S k->S' k):Fr S' w w':=⟨h.os,h.tape,h.output,h.size,fun i hi hn=>h.block i hi (fun e=>hn (hs i hi e))⟩
theorem Fr.weak (h:Fr S w w') (hs:∀k,S k->S' k):Fr S' w w':=h.mono fun k _=>hs k
theorem Fr.of_below (S:Nat->Prop) (h:aE w w'):Fr S w w':=⟨h.os,h.tape,h.output,h.size,fun i hi _=>h.block i hi⟩
theorem Fr.below (h:Fr S w w') {B:Nat} (hB:B<=w.heap.size) (hs:∀k,k<B->¬S k):Below B w w':=⟨h.os,h.tape,h.output,h.size,fun i hi=>h.block i (by omega) (hs i hi)⟩
theorem Fr.alloc (h:Fr S w w') (o:Obj):Fr S w (w'.alloc o):=h.trans (.of_below S (aA.alloc aC o))
theorem Fr.drew (h:Fr S w w'):Fr S w w'.drew:=⟨h.os,h.tape,h.output,h.size,h.block⟩
theorem Fr.setCell (h:Fr S w w') {p:Addr} (hp:S p.block\/w.heap.size<=p.block) (u:Value):Fr S w (w'.setCell p u):=
 ⟨h.os,h.tape,h.output,by simpa[World.setCell]using h.size,fun k hk hs=>by
  rw[av _ _ _ _ (fun e=>by subst e;exact hp.elim (fun h=>hs h) (fun h=>absurd h (by omega)))]
  exact h.block k hk hs⟩
theorem Fr.grown {row:Option Nat} (h:Fr S w w') (hg:w'.grownBy w'' row) (hr:∀g,row=some g->S g\/w.heap.size<=g):Fr S w w'':=
 ⟨hg.os.trans h.os,hg.tape.trans h.tape,hg.output.trans h.output,Nat.le_trans h.size hg.size,fun k hk hs=>by
  rw[hg.block k (Nat.lt_of_lt_of_le hk h.size) (fun e=>(hr k e.symm).elim (fun h=>hs h) (fun h=>absurd h (by omega)))]
  exact h.block k hk hs⟩
theorem Fr.step (h:Fr S w w') (k:aE w' w''):Fr S w w'':=h.trans (.of_below S k)
theorem Fr.cell (h:Fr S w w') {p:Addr} (hp:p.block<w.heap.size) (hs:¬S p.block):w'.cell? p=w.cell? p:=World.cell?_of_block (w:=w) (h.block p.block hp hs)
end
end
section
open Go.RowKit
section
variable {P:Program} {w w':World} {α:Type} {B sz:Nat} {e:TypeId} {enc:α->List Value} {v:Value} {l:List α}
structure aS (w:World) (B:Nat) (e:TypeId) (sz:Nat) (enc:α->List Value) (v:Value) (l:List α):Prop where
 own:w.ownsRow B e sz v l.length (l.flatMap enc)
def sG:Value->Nat
 | .slice _ n _=>n
 |_=>0
theorem aS.nil (w:World) (B:Nat) (e:TypeId) (sz:Nat) (enc:α->List Value):aS w B e sz enc aj []:=⟨World.ownsRow_nil w B e sz⟩
theorem aS.kept {row:Option Nat} (h:aS w B e sz enc v l) (hg:w.grownBy w' row) (hne:v.ownBlock=none\/v.ownBlock≠row):aS w' B e sz enc v l:=⟨h.own.kept hg hne⟩
theorem aS.alloc (h:aS w B e sz enc v l) (o:Obj):aS (w.alloc o) B e sz enc v l:=⟨h.own.alloc o⟩
theorem aS.lt (h:aS w B e sz enc v l):∀k,v.ownBlock=some k->B<=k/\k<w.heap.size:=h.own.lt
theorem aS.keep (h:aS w B e sz enc v l) (hb:∀k,v.ownBlock=some k->w'.heap[k]?=w.heap[k]?):aS w' B e sz enc v l:=by
 refine⟨h.own.1,?_⟩
 rcases h.own.2 with hn|⟨g,cap,cur,rfl,hg,hgg,rest⟩
 ·exact .inl hn
 ·exact .inr ⟨g,cap,cur,rfl,hg,by rw[hb g rfl];exact hgg,rest⟩
theorem aS.later (h:aS w B e sz enc v l) (hb:aE w w'):aS w' B e sz enc v l:=h.keep fun k hk=>hb.block k (h.lt k hk).2
theorem aS.down {B':Nat} (h:aS w B e sz enc v l) (hB:B'<=B):aS w B' e sz enc v l:=by
 refine⟨h.own.1,?_⟩
 rcases h.own.2 with hn|⟨g,cap,cur,hv,hg,rest⟩
 ·exact .inl hn
 ·exact .inr ⟨g,cap,cur,hv,Nat.le_trans hB hg,rest⟩
theorem aS.len (h:aS w B e sz enc v l):sG v=l.length:=by
 rcases h.own.2 with⟨rfl,h2⟩|⟨g,cap,cur,rfl,_⟩
 ·exact h2.symm
 ·rfl
theorem aS.made {t:TypeId} {i:TypeInfo} {z:Value} (ht:P.underlying t=some (.slice e)) (hi:P.info? e=some i) (hz:i.zero=some z) (hsize:i.size=sz) (kl kc:IntKind) (c:Nat)
 (hbytes:i.bytes*c<=281474976710656) (h63:c<=maxLen) (hbase:B<=w.heap.size):
 ∃w',(Instr.makeSlice t (.int kl 0) (.int kc (c:Int))).run P w=.ok (al w.heap.size 0 c) w'/\aS w' B e sz enc (al w.heap.size 0 c) []/\w.grownBy w' none:=by
 obtain⟨w',h1,h2,h3⟩:=run_make_own (P:=P) w B t e i z sz ht hi hz hsize kl kc c hbytes h63 hbase
 exact⟨w',h1,⟨h2⟩,h3⟩
theorem bH (henc:∀x,(enc x).length=sz):∀l:List α,(l.flatMap enc).length=l.length*sz
 |[]=>by simp
 |x::r=>by rw[List.flatMap_cons,List.length_append,henc,bH henc r,List.length_cons,Nat.add_mul];omega
theorem dU (henc:∀x,(enc x).length=sz):∀(l:List α) (i j:Nat) (x:α) (u:Value),l[i]?=some x->(enc x)[j]?=some u->(l.flatMap enc)[i*sz+j]?=some u
 |[],i,j,x,u,h,_=>by simp at h
 |y::r,0,j,x,u,h,h2=>by
  simp at h
  subst h
  rw[List.flatMap_cons,Nat.zero_mul,Nat.zero_add,List.getElem?_append_left (aq h2).1]
  exact h2
 |y::r,i+1,j,x,u,h,h2=>by
  simp at h
  rw[List.flatMap_cons,List.getElem?_append_right (by rw[henc,Nat.add_mul];omega),henc,show(i+1)*sz+j-sz=i*sz+j by rw[Nat.add_mul];omega]
  exact dU henc r i j x u h h2
theorem aS.cells (henc:∀x,(enc x).length=sz) (h:aS w B e sz enc v l) (hne:l≠[]):
 ∃g cap,v=al g l.length cap/\B<=g/\g<w.heap.size/\l.length<=cap/\∀i x,l[i]?=some x->∀j u,(enc x)[j]?=some u->w.cell? (ak g (i*sz+j))=some u/\w.frozen? ⟨g,i*sz+j,none⟩=false:=by
 rcases h.own.2 with⟨rfl,h2⟩|⟨g,cap,cur,rfl,hg,hgg,hc,_,hcs,htk⟩
 ·exact absurd (List.eq_nil_of_length_eq_zero h2) hne
 ·refine⟨g,cap,rfl,hg,(ap hgg).1,hc,?_⟩
  intro i x hx j u hu
  have h3:=dU henc l i j x u hx hu
  rw[<-htk,List.getElem?_take]at h3
  split at h3
  ·rename_i hlt
   constructor
   ·rw[cell_of_row w g _ cur e (0,0) hgg]
    simpa using h3
   ·simp[World.frozen?,hgg]
  ·cases h3
theorem aS.shape (h:aS w B e sz enc v l):∃A cap,v=.slice A l.length cap:=by
 rcases h.own.2 with⟨rfl,h2⟩|⟨g,cap,cur,rfl,_⟩
 ·exact⟨none,0,by rw[h2]⟩
 ·exact⟨_,cap,rfl⟩
theorem cK {ops:Array Oper} {rest:List Oper} {o:Oper} {a:Act} {Q:Exit->Act->World->Prop} (hgd:o.guard=none) (s x:Operand) (t:TypeId)
 (ho:o.op=.call {callee:=.builtin .append,args:=#[s,x],argTypes:=#[t,t]}) (w:World) (B:Nat)
 (e:TypeId) (i:TypeInfo) (z:Value) (sz bytes:Nat) (enc:α->List Value) (ht:P.underlying t=some (.slice e)) (hi:P.info? e=some i) (hz:i.zero=some z)
 (hsize:i.size=sz) (hby:i.bytes=bytes) (hzs:z.cells.size=sz) (hsz:0<sz) (henc:∀x,(enc x).length=sz) (h1:∀x,∀u∈enc x,u.oneCell'=true)
 (v:Value) (l:List α) (y:α) (hs:a.eval s=v) (h:aS w B e sz enc v l)
 (g cap:Nat) (hx:a.eval x=al g 1 cap) (hnews:∀j u,(enc y)[j]?=some u->w.cell? (ak g j)=some u)
 (h63:l.length+1<=maxLen) (hbytes:(l.length+1)*bytes<=140737488355328) (hbase:B<=w.heap.size)
 (hK:∀v' w',aS w' B e sz enc v' (l++[y])->w.grownBy w' v.ownBlock->wpList P ops Q rest (a.put o.dst v') w'):wpList P ops Q (o::rest) a w:=by
 refine wpList_append_own w hgd s x t ho B e i z sz bytes ht hi hz hsize hby hzs hsz v l.length (l.flatMap enc) hs h.own ⟨g,0,none⟩ 1 cap (enc y) hx (by rw[henc,Nat.one_mul]) ?_ (h1 y) h63 hbytes hbase ?_
 ·intro j u hu
  have:(⟨g,0,none⟩:Addr).add j=⟨g,j,none⟩:=by unfold Addr.add;split<;>simp_all
  rw[this]
  exact hnews j u hu
 ·intro v' w' h2 h3 _
  refine hK v' w' ⟨?_⟩ h3
  rw[List.flatMap_append,List.length_append]
  simpa using h2
end
end
section
open Go.RowKit
theorem aK {w:World} {b i:Nat} {cs:Array Value} {t:TypeId} {fr:Nat×Nat} (h:w.heap[b]?=some (.cells cs t fr)) (u:Value):(w.setCell (ak b i) u).heap[b]?=some (.cells (cs.setIfInBounds i u) t fr):=by
 simp[World.setCell,Array.getElem?_modify,h]
theorem kr {w E:World} (h:aE w E) (o:Obj):aE w (E.alloc o):=h.alloc h.size o
theorem gU {w E:World} (h:aE w E) (n:Nat):aE w (E.drewN n):=⟨h.os,h.tape,h.output,h.size,h.block⟩
theorem iT {w1:World} {b:Nat} {a0 a1 a2 a3 a4 a5:Value} {t:TypeId} (h:w1.heap[b]?=some (.cells #[a0,a1,a2,a3,a4,a5] t (0,0))):
 w1.cell? (ak b 0)=some a0/\w1.cell? (ak b 1)=some a1/\w1.cell? (ak b 2)=some a2/\w1.cell? (ak b 3)=some a3/\w1.cell? (ak b 4)=some a4/\w1.cell? (ak b 5)=some a5/\(∀o,w1.frozen? ⟨b,o,none⟩=false):=
 ⟨by rw[cell_of_row w1 b 0 _ t (0,0) h];rfl,by rw[cell_of_row w1 b 1 _ t (0,0) h];rfl,by rw[cell_of_row w1 b 2 _ t (0,0) h];rfl,by rw[cell_of_row w1 b 3 _ t (0,0) h];rfl,by rw[cell_of_row w1 b 4 _ t (0,0) h];rfl,by rw[cell_of_row w1 b 5 _ t (0,0) h];rfl,fun o=>by simp[World.frozen?,h]⟩
theorem aH {w1:World} {b:Nat} {a0 a1 a2 a3:Value} {t:TypeId} (h:w1.heap[b]?=some (.cells #[a0,a1,a2,a3] t (0,0))):
 w1.cell? (ak b 0)=some a0/\w1.cell? (ak b 1)=some a1/\w1.cell? (ak b 2)=some a2/\w1.cell? (ak b 3)=some a3/\(∀o,w1.frozen? ⟨b,o,none⟩=false):=
 ⟨by rw[cell_of_row w1 b 0 _ t (0,0) h];rfl,by rw[cell_of_row w1 b 1 _ t (0,0) h];rfl,by rw[cell_of_row w1 b 2 _ t (0,0) h];rfl,by rw[cell_of_row w1 b 3 _ t (0,0) h];rfl,fun o=>by simp[World.frozen?,h]⟩
theorem bc {w:World} {b:Nat} {cs:Array Value} {t:TypeId} (h:w.heap[b]?=some (.cells cs t (0,0))) (hs:cs.size=4) (a0 a1 a2 a3:Value):
 ((((w.setCell (ak b 0) a0).setCell (ak b 1) a1).setCell (ak b 2) a2).setCell (ak b 3) a3).heap[b]?=some (.cells #[a0,a1,a2,a3] t (0,0)):=by
 rw[aK (aK (aK (aK h a0) a1) a2) a3]
 obtain⟨l⟩:=cs
 obtain _|⟨x0,_|⟨x1,_|⟨x2,_|⟨x3,_|⟨x4,r⟩⟩⟩⟩⟩:=l<;>simp at hs⊢
theorem aM {w:World} {b k:Nat} (a0 a1 a2 a3:Value) (h:k≠b):
 ((((w.setCell (ak b 0) a0).setCell (ak b 1) a1).setCell (ak b 2) a2).setCell (ak b 3) a3).heap[k]?=w.heap[k]?:=by
 rw[av _ _ _ _ h,av _ _ _ _ h,av _ _ _ _ h,av _ _ _ _ h]
theorem eU {w1:World} {b:Nat} {a0 a1 a2 a3 a4 a5 a6:Value} {t:TypeId} (h:w1.heap[b]?=some (.cells #[a0,a1,a2,a3,a4,a5,a6] t (0,0))):
 w1.cell? (ak b 0)=some a0/\w1.cell? (ak b 1)=some a1/\w1.cell? (ak b 2)=some a2/\w1.cell? (ak b 3)=some a3/\w1.cell? (ak b 4)=some a4/\w1.cell? (ak b 5)=some a5/\w1.cell? (ak b 6)=some a6/\(∀o,w1.frozen? ⟨b,o,none⟩=false):=
 ⟨by rw[cell_of_row w1 b 0 _ t (0,0) h];rfl,by rw[cell_of_row w1 b 1 _ t (0,0) h];rfl,by rw[cell_of_row w1 b 2 _ t (0,0) h];rfl,by rw[cell_of_row w1 b 3 _ t (0,0) h];rfl,by rw[cell_of_row w1 b 4 _ t (0,0) h];rfl,by rw[cell_of_row w1 b 5 _ t (0,0) h];rfl,by rw[cell_of_row w1 b 6 _ t (0,0) h];rfl,fun o=>by simp[World.frozen?,h]⟩
theorem AW {w W:World} (h:aE w W) (b:Nat) (hb:w.heap.size<=b) (a0 a1 a2 a3 a4 a5 a6:Value):
 aE w (((((((W.setCell (ak b 0) a0).setCell (ak b 1) a1).setCell (ak b 2) a2).setCell (ak b 3) a3).setCell (ak b 4) a4).setCell (ak b 5) a5).setCell (ak b 6) a6):=
 ((((((h.setCell (p:=(ak b 0)) hb _).setCell (p:=(ak b 1)) hb _).setCell (p:=(ak b 2)) hb _).setCell (p:=(ak b 3)) hb _).setCell (p:=(ak b 4)) hb _).setCell (p:=(ak b 5)) hb _).setCell (p:=(ak b 6)) hb _
theorem nl {w:World} {b:Nat} {x0 x1 x2 x3 x4 x5 x6:Value} {t:TypeId} (h:w.heap[b]?=some (.cells #[x0,x1,x2,x3,x4,x5,x6] t (0,0))) (a0 a1 a2 a3 a4 a5 a6:Value):
 (((((((w.setCell (ak b 0) a0).setCell (ak b 1) a1).setCell (ak b 2) a2).setCell (ak b 3) a3).setCell (ak b 4) a4).setCell (ak b 5) a5).setCell (ak b 6) a6).heap[b]?=some (.cells #[a0,a1,a2,a3,a4,a5,a6] t (0,0)):=by
 rw[aK (aK (aK (aK (aK (aK (aK h a0) a1) a2) a3) a4) a5) a6]
 rfl
theorem iM {w:World} {b k:Nat} (a0 a1 a2 a3 a4 a5 a6:Value) (h:k≠b):
 (((((((w.setCell (ak b 0) a0).setCell (ak b 1) a1).setCell (ak b 2) a2).setCell (ak b 3) a3).setCell (ak b 4) a4).setCell (ak b 5) a5).setCell (ak b 6) a6).heap[k]?=w.heap[k]?:=by
 rw[av _ _ _ _ h,av _ _ _ _ h,av _ _ _ _ h,av _ _ _ _ h,av _ _ _ _ h,av _ _ _ _ h,av _ _ _ _ h]
open Go.RowKit Go.Deep
section
variable {w:World} {α:Type} {B sz:Nat} {e:TypeId} {enc:α->List Value} {v:Value} {l:List α}
theorem lD (henc:∀x,(enc x).length=sz):∀(l:List α) (i j:Nat) (x y:α) (u:Value),l[i]?=some x->j<sz->enc y=(enc x).set j u->(l.flatMap enc).set (i*sz+j) u=(l.set i y).flatMap enc
 |[],i,j,x,y,u,h,_,_=>by simp at h
 |z::r,0,j,x,y,u,h,hj,he=>by
  simp at h
  subst h
  rw[Nat.zero_mul,Nat.zero_add,List.set_cons_zero,List.flatMap_cons,List.flatMap_cons,List.set_append_left _ _ (by rw[henc];exact hj),he]
 |z::r,i+1,j,x,y,u,h,hj,he=>by
  simp at h
  rw[List.set_cons_succ,List.flatMap_cons,List.flatMap_cons,List.set_append_right _ _ (by rw[henc,Nat.add_mul];omega),henc,show(i+1)*sz+j-sz=i*sz+j by rw[Nat.add_mul];omega,lD henc r i j x y u h hj he]
theorem aS.put (henc:∀x,(enc x).length=sz) {g n cap:Nat} (h:aS w B e sz enc (al g n cap) l) {i j:Nat} {x y:α} {u:Value} (hx:l[i]?=some x) (hj:j<sz) (hy:enc y=(enc x).set j u):
 aS (w.setCell (ak g (i*sz+j)) u) B e sz enc (al g n cap) (l.set i y):=by
 obtain⟨h1,h2⟩:=h.own
 rcases h2 with⟨h0,_⟩|⟨g',cap',cur,hv,hg,hh,hn,hcap,hsz,htake⟩
 ·cases h0
 ·cases hv
  refine⟨by rw[bH henc],.inr ⟨g,cap,cur.setIfInBounds (i*sz+j) u,by rw[List.length_set],hg,?_,by rw[List.length_set];exact hn,hcap,by rw[Array.size_setIfInBounds];exact hsz,?_⟩⟩
  ·simp[World.setCell,Array.getElem?_modify,hh]
  ·rw[List.length_set,Array.toList_setIfInBounds,List.take_set,htake,lD henc l i j x y u hx hj hy]
theorem aS.away (h:aS w B e sz enc v l) {p:Addr} (u:Value) (hp:∀k,v.ownBlock=some k->k≠p.block):aS (w.setCell p u) B e sz enc v l:=
 h.keep fun k hk=>blk_setCell_other _ _ _ _ (hp k hk)
theorem aS.front (henc:∀x,(enc x).length=sz) {g cap:Nat} {x:α} (h:aS w B e sz enc (al g (l.length+1) cap) (l++[x])):aS w B e sz enc (al g l.length cap) l:=by
 have h1:=h.own
 rw[List.length_append,List.flatMap_append]at h1
 exact⟨ownsRow_pop (bH henc l) h1⟩
theorem bY {P:Program} {ops:Array Oper} {rest:List Oper} {o:Oper} {a:Act} {Q:Exit->Act->World->Prop} (hgd:o.guard=none) (s x:Operand) (t:TypeId)
 (ho:o.op=.call {callee:=.builtin .append,args:=#[s,x],argTypes:=#[t,t]}) (w:World) (B:Nat)
 (e:TypeId) (i:TypeInfo) (z:Value) (sz bytes:Nat) (enc:α->List Value) (ht:P.underlying t=some (.slice e)) (hi:P.info? e=some i) (hz:i.zero=some z)
 (hsize:i.size=sz) (hby:i.bytes=bytes) (hzs:z.cells.size=sz) (hsz:0<sz) (henc:∀x,(enc x).length=sz) (h1:∀x,∀u∈enc x,u.oneCell'=true)
 (v:Value) (l ys:List α) (hs:a.eval s=v) (h:aS w B e sz enc v l)
 (g off cap:Nat) (hx:a.eval x=.slice (some (ak g off)) ys.length cap) (hnews:∀j u,(ys.flatMap enc)[j]?=some u->w.cell? (ak g (off+j))=some u)
 (h63:l.length+ys.length<=maxLen) (hbytes:(l.length+ys.length)*bytes<=140737488355328) (hbase:B<=w.heap.size)
 (hK:∀v' w',aS w' B e sz enc v' (l++ys)->w.grownBy w' v.ownBlock->wpList P ops Q rest (a.put o.dst v') w'):wpList P ops Q (o::rest) a w:=by
 refine wpList_append_own w hgd s x t ho B e i z sz bytes ht hi hz hsize hby hzs hsz v l.length (l.flatMap enc) hs h.own ⟨g,off,none⟩ ys.length cap (ys.flatMap enc) hx (bH henc ys) ?_ ?_ h63 hbytes hbase ?_
 ·intro j u hu
  have:(⟨g,off,none⟩:Addr).add j=⟨g,off+j,none⟩:=by unfold Addr.add;split<;>simp_all
  rw[this]
  exact hnews j u hu
 ·intro u hu
  rw[List.mem_flatMap]at hu
  obtain⟨y,-,hy⟩:=hu
  exact h1 y u hy
 ·intro v' w' h2 h3 _
  refine hK v' w' ⟨?_⟩ h3
  rw[List.flatMap_append,List.length_append]
  exact h2
end
end
section
open Go.RowKit
inductive Tm
 |mk (k n:Int) (s:List UInt8) (args:List Tm)
def Tm.k:Tm->Int| .mk k _ _ _=>k
def Tm.n:Tm->Int| .mk _ n _ _=>n
def Tm.s:Tm->List UInt8| .mk _ _ s _=>s
def Tm.args:Tm->List Tm| .mk _ _ _ l=>l
def eR (k n:Int) (s:List UInt8) (m:Nat):Bool:=
 if k=1 then decide (0<=n/\s=[]/\m=0)else if k=2 then decide (s=[]/\m=0)else if k=3 then decide (n=0/\s.length<=1000/\m=0)
 else if k=4 then decide (n=0/\s.length<=1000/\1<=m/\m<=255)else false
mutual
def Tm.size:Tm->Nat| .mk _ _ _ l=>1+Tm.sizes l
def Tm.sizes:List Tm->Nat|[]=>0|t::r=>t.size+Tm.sizes r
end
mutual
def Tm.deep:Tm->Nat| .mk _ _ _ l=>1+Tm.deeps l
def Tm.deeps:List Tm->Nat|[]=>0|t::r=>max t.deep (Tm.deeps r)
end
mutual
def Tm.may:Tm->Bool| .mk k n s l=>eR k n s l.length&&Tm.mays l
def Tm.mays:List Tm->Bool|[]=>true|t::r=>t.may&&Tm.mays r
end
structure TV where
 k:Int
 n:Int
 s:List UInt8
 A:Option Addr
 len:Nat
 cap:Nat
def aJ (x:TV):List Value:=[ae x.k,ae x.n,af x.s,.slice x.A x.len x.cap]
def aU (x:TV):Value:=.agg #[ae x.k,ae x.n,af x.s,.slice x.A x.len x.cap]
theorem bh (x:TV):(aJ x).length=4:=rfl
theorem gy (x:TV):∀u∈aJ x,u.oneCell'=true:=by
 intro u hu
 simp[aJ]at hu
 rcases hu with rfl|rfl|rfl|rfl<;>rfl
inductive aO (w:World) (B:Nat):TV->Tm->Prop
 |mk (x:TV) (args:List Tm) (xs:List TV) (h1:xs.length=x.len) (h2:args.length=x.len) (h3:x.s.length<=maxLen)
   (hc:∀i y,xs[i]?=some y->∃b off,x.A=some (ak b off)/\b<B/\∀j u,(aJ y)[j]?=some u->w.cell? (ak b (off+i*4+j))=some u)
   (ht:∀(i:Nat) (y:TV) (t:Tm),xs[i]?=some y->args[i]?=some t->aO w B y t):aO w B x (.mk x.k x.n x.s args)
theorem aO.keep {w w':World} {B B':Nat} {x:TV} {t:Tm} (h:aO w B x t) (hB:B<=B') (hb:∀k,k<B->w'.heap[k]?=w.heap[k]?):aO w' B' x t:=by
 induction h with
 |mk x args xs h1 h2 h3 hc ht ih=>
  refine .mk x args xs h1 h2 h3 (fun i y hy=>?_) ih
  obtain⟨b,off,e1,e2,e3⟩:=hc i y hy
  exact⟨b,off,e1,by omega,fun j u hu=>(World.cell?_of_block (a:=⟨b,off+i*4+j,none⟩) (hb b e2)).trans (e3 j u hu)⟩
theorem aO.blw {w w':World} {B:Nat} {x:TV} {t:Tm} (h:aO w B x t) (hb:Below B w w'):aO w' B x t:=h.keep aC hb.block
theorem aO.up {w:World} {B B':Nat} {x:TV} {t:Tm} (h:aO w B x t) (hB:B<=B'):aO w B' x t:=h.keep hB fun _ _=>rfl
theorem aO.later {w w':World} {x:TV} {t:Tm} (h:aO w w.heap.size x t) (hb:aE w w'):aO w' w'.heap.size x t:=h.keep hb.size hb.block
theorem aO.leaf (w:World) (B:Nat) (k n:Int) (s:List UInt8) (A:Option Addr) (c:Nat) (hs:s.length<=maxLen):aO w B ⟨k,n,s,A,0,c⟩ (.mk k n s []):=
 .mk ⟨k,n,s,A,0,c⟩ [] [] rfl rfl hs (fun i y h=>by simp at h) (fun i y t h=>by simp at h)
theorem aO.open {w:World} {B:Nat} {x:TV} {t:Tm} (h:aO w B x t):t.k=x.k/\t.n=x.n/\t.s=x.s/\t.args.length=x.len/\x.s.length<=maxLen∧
 ∀i ti,t.args[i]?=some ti->∃y b off,x.A=some (ak b off)/\b<B/\aO w B y ti/\∀j u,(aJ y)[j]?=some u->w.cell? (ak b (off+i*4+j))=some u:=by
 cases h with
 |mk _ args xs h1 h2 h3 hc ht=>
  refine⟨rfl,rfl,rfl,h2,h3,fun i ti hi=>?_⟩
  have hlt:=(aq hi).1
  have hlt2:i<xs.length:=by rw[h1,<-h2];exact hlt
  obtain⟨b,off,e1,e2,e3⟩:=hc i _ (au hlt2)
  exact⟨_,b,off,e1,e2,ht i _ ti (au hlt2) hi,e3⟩
theorem um {P:Program} {w w':World} {ops:Array Oper} {rest:List Oper} {o:Oper} {a:Act} {Q:Exit->Act->World->Prop} (hgd:o.guard=none) (s x:Operand) (t:TypeId)
 (ho:o.op=.call {callee:=.builtin .append,args:=#[s,x],argTypes:=#[t,t]}) {v v' y:Value} (hs:a.eval s=v) (hx:a.eval x=y)
 (hrun:(Builtin.append_ #[t,t] o.type #[v,y]).run P w=.ok v' w') (h:wpList P ops Q rest (a.put o.dst v') w'):wpList P ops Q (o::rest) a w:=by
 refine wpList_plain hgd fun K hK=>?_
 unfold Oper.wp
 simp[execOp,ho,resolve,invoke,builtin,hs,hx,hrun,Result.andThen]
 exact hK _ _ h
theorem ks {P:Program} {w w':World} {ops:Array Oper} {o:Oper} {a:Act} {K:Act->World->Prop} {Q:Exit->Act->World->Prop} {E:Prop} (hgd:o.guard=none) (s x:Operand) (t:TypeId)
 (ho:o.op=.call {callee:=.builtin .append,args:=#[s,x],argTypes:=#[t,t]}) {v v' y:Value} (hs:a.eval s=v) (hx:a.eval x=y)
 (hrun:(Builtin.append_ #[t,t] o.type #[v,y]).run P w=.ok v' w') (h:K (a.put o.dst v') w'):if Region.wanted o (yielded ops a.tmps)=true then Oper.wp P o a w K Q else E:=by
 have hw:Region.wanted o (yielded ops a.tmps)=true:=by simp[Region.wanted,hgd]
 rw[if_pos hw]
 unfold Oper.wp
 simp[execOp,ho,resolve,invoke,builtin,hs,hx,hrun,Result.andThen]
 exact h
theorem bV (w:World) (cs:Array Value) (t:TypeId) (i:Nat) (u:Value) (h:cs[i]?=some u):(w.alloc (.cells cs t)).cell? (ak w.heap.size i)=some u:=by
 rw[cell_of_row _ _ i cs t (0,0) (heap_alloc_new w _)]
 exact h
section
variable {P:Program} {α:Type} {w:World} {B sz:Nat} {e:TypeId} {enc:α->List Value}
theorem aS.one (henc:∀x,(enc x).length=sz) (w:World) (x:α) (hB:B<=w.heap.size):aS (w.alloc (.cells (enc x).toArray e)) B e sz enc (al w.heap.size 1 1) [x]:=by
 refine⟨by simp[henc],.inr ⟨w.heap.size,1,(enc x).toArray,rfl,hB,heap_alloc_new w _,aC,by unfold maxLen;omega,by simp[henc],?_⟩⟩
 rw[List.flatMap_cons,List.flatMap_nil,List.append_nil]
 simp only[List.length_cons,List.length_nil,Nat.zero_add,Nat.one_mul]
 exact List.take_of_length_le (by rw[henc];exact aC)
theorem aS.push {t:TypeId} (t':TypeId) {i:TypeInfo} {z:Value} {bytes:Nat} (ht:P.underlying t=some (.slice e)) (hi:P.info? e=some i) (hz:i.zero=some z) (hsize:i.size=sz) (hby:i.bytes=bytes) (hzs:z.cells.size=sz) (hsz:0<sz)
 (henc:∀x,(enc x).length=sz) (h1:∀x,∀u∈enc x,u.oneCell'=true) {v:Value} {l:List α} (h:aS w B e sz enc v l) (y:α) (g cap:Nat) (hnews:∀j u,(enc y)[j]?=some u->w.cell? (ak g j)=some u)
 (h63:l.length+1<=maxLen) (hbytes:(l.length+1)*bytes<=140737488355328) (hbase:B<=w.heap.size):
 ∃g' cap' w',(Builtin.append_ #[t,t] t' #[v,al g 1 cap]).run P w=.ok (al g' (l.length+1) cap') w'/\aS w' B e sz enc (al g' (l.length+1) cap') (l++[y])/\w.grownBy w' v.ownBlock∧
  (v.ownBlock=some g'\/g'=w.heap.size):=by
 obtain⟨g',cap',w',e1,e2,e3,e4,_⟩:=run_append_lies (P:=P) w t t' B e i z sz bytes ht hi hz hsize hby hzs hsz v l.length (l.flatMap enc) h.own ⟨g,0,none⟩ 1 cap (enc y) (by rw[henc,Nat.one_mul])
  (fun j u hu=>by
    have:(⟨g,0,none⟩:Addr).add j=⟨g,j,none⟩:=by unfold Addr.add;split<;>simp_all
    rw[this]
    exact hnews j u hu) (h1 y) (by omega) h63 hbytes hbase w.heap.size rfl
 refine⟨g',cap',w',e1,⟨?_⟩,e3,e4⟩
 rw[List.flatMap_append,List.length_append]
 simpa using e2
end
def eH:World->List Obj->World
 |w,[]=>w
 |w,o::r=>eH (w.alloc o) r
theorem iB:∀(w:World) (l:List Obj),(eH w l).heap.size=w.heap.size+l.length
 |w,[]=>rfl
 |w,o::r=>by rw[eH,iB,List.length_cons];simp;omega
theorem dW:∀(w:World) (l:List Obj),aE w (eH w l)
 |w,[]=>aA
 |w,o::r=>((Below.refl w.heap.size w).alloc aC o).trans ((dW (w.alloc o) r).mono (by simp))
theorem cg:∀(w:World) (l:List Obj) (i:Nat) (o:Obj),l[i]?=some o->(eH w l).heap[w.heap.size+i]?=some o
 |w,[],i,o,h=>by simp at h
 |w,x::r,0,o,h=>by
  simp at h
  subst h
  rw[eH,Nat.add_zero,(dW (w.alloc x) r).block w.heap.size (by simp)]
  exact heap_alloc_new w _
 |w,x::r,i+1,o,h=>by
  have:=cg (w.alloc x) r i o (by simpa using h)
  rw[eH,show w.heap.size+(i+1)=(w.alloc x).heap.size+i by simp;omega]
  exact this
end
section
def cS (c:Int):Int:=
 if(9<=c/\c<=13)\/c=32 then 1
 else if 97<=c/\c<=122 then 2
 else if(65<=c/\c<=90)\/c=95 then 3
 else if 48<=c/\c<=57 then 4
 else if c=43\/c=45\/c=42\/c=47\/c=92\/c=94\/c=60\/c=62\/c=61\/c=126\/c=58\/c=46\/c=63\/c=64\/c=35\/c=38\/c=36 then 5
 else if c=33\/c=59 then 6
 else if c=40\/c=41\/c=91\/c=93\/c=123\/c=125\/c=44\/c=124\/c=37 then 7
 else if c=39\/c=34\/c=96 then 8
 else 0
def fT (c:UInt8):Int:=cS c.toNat
def qo (c:UInt8):Bool:=decide (fT c=2\/fT c=3\/fT c=4)
def px (c:UInt8):Bool:=decide (fT c=5)
def kM (l:List UInt8):Bool:=
 if l=[]\/l=[46]then false
 else if l=[91,93]\/l=[33]\/l=[59]\/l=[123,125]then true
 else if fT (l.headD 0)=2 then l.all qo
 else !(l.take 2==[47,42])&&l.all px
def bF (n:Nat):UInt8:=if n<10 then UInt8.ofNat (48+n)else UInt8.ofNat (87+n)
def fQ (c:UInt8):List UInt8:=if c.toNat<16 then[bF c.toNat]else[bF (c.toNat/16),bF (c.toNat%16)]
def ed (c:UInt8):List UInt8:=
 if c=39\/c=92 then[92,c]
 else if c=10 then[92,110]
 else if c=9 then[92,116]
 else if c<32\/c=127 then[92,120]++fQ c++[92]
 else[c]
def yx (l:List UInt8):List UInt8:=[39]++l.flatMap ed++[39]
def sn (l:List UInt8):List UInt8:=if kM l then l else yx l
end
end Go.Proofs.YtigeofkllldilaaGreatDoor
