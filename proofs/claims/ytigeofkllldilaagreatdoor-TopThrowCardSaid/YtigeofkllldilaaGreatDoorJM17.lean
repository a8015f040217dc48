import Derived.Test.YtigeofkllldilaaGreatDoorJM16
set_option maxHeartbeats 32000000
set_option maxRecDepth 100000
set_option linter.unusedSectionVars false
open Go.Proofs.Tryz
namespace Go.Proofs.YtigeofkllldilaaGreatDoor
section
open Go.RowKit Go.Maps
def Di (ops:Array Oper) (js:List Nat) (fst:Nat) (rest:List Nat):Bool:=
 js.all (fun j=>(ops[j]?).any fun o=>o.after.all fun e=> !Region.binds .any e||(decide (e.on<ops.size)&& !(js.contains e.on||(fst::rest).contains e.on)))&&
 ((ops[fst]?).all (fun o=>js.all (fun j=>o.after.any fun e=>Region.binds .any e&&(e.on==j)))&&
 (rest.all (fun r=>(ops[r]?).all fun o=>o.after.any fun e=>Region.binds .any e&&(e.on==fst))&&decide (fst<ops.size)))
def zW (n:Nat) (listed:Array Bool) (js ends:List Nat):Bool:=
 (listed.size==n)&&(List.range n).all fun i=>listed.getD i true== !(js.contains i||ends.contains i)
structure jl (n:Nat) (listed:Array Bool) (left ends:List Nat):Prop where
 size:listed.size=n
 pos:∀i,i<n->(listed.getD i true=false↔i∈left\/i∈ends)
theorem jl.of {n:Nat} {listed:Array Bool} {js ends:List Nat} (h:zW n listed js ends=true):jl n listed js ends:=by
 simp only[zW,Bool.and_eq_true,beq_iff_eq,List.all_eq_true,List.mem_range]at h
 refine⟨h.1,fun i hi=>?_⟩
 rw[h.2 i hi]
 by_cases h1:i∈js<;>simp[h1]
theorem uW {listed:Array Bool} {i:Nat} (hi:i<listed.size) (d e:Bool):listed.getD i d=listed.getD i e:=by simp[Array.getD,hi]
theorem jl.same {n:Nat} {l l':Array Bool} {left ends:List Nat} (h:jl n l left ends) (h':jl n l' left ends):l=l':=by
 refine Array.ext (by rw[h.size,h'.size]) fun i h1 h2=>?_
 have e1:l.getD i true=l[i]:=by simp[Array.getD,h1]
 have e2:l'.getD i true=l'[i]:=by simp[Array.getD,h2]
 have a:=h.pos i (by rw[<-h.size];exact h1)
 have b:=h'.pos i (by rw[<-h.size];exact h1)
 rw[e1]at a
 rw[e2]at b
 rw[Bool.eq_iff_iff,<-Bool.not_eq_false,<-Bool.not_eq_false,a,b]
theorem jl.done {n:Nat} {listed:Array Bool} {left ends:List Nat} {i:Nat} (h:jl n listed left ends) (hi:i<n) (h1:i∉left) (h2:i∉ends):listed.getD i false=true:=by
 rw[uW (by rw[h.size];exact hi) false true]
 cases hc:listed.getD i true with
 |true=>rfl
 |false=>exact absurd ((h.pos i hi).1 hc) (by simp[h1,h2])
theorem jl.undone {n:Nat} {listed:Array Bool} {left ends:List Nat} {i:Nat} (h:jl n listed left ends) (hi:i<n) (h1:i∈left\/i∈ends):¬listed.getD i false=true:=by
 rw[uW (by rw[h.size];exact hi) false true,(h.pos i hi).2 h1]
 exact Bool.false_ne_true
theorem jl.step {n:Nat} {listed:Array Bool} {left ends:List Nat} {i:Nat} (h:jl n listed left ends) (hn:left.Nodup) (hl:i∉ends):jl n (listed.setIfInBounds i true) (left.erase i) ends:=by
 refine⟨by simp[h.size],fun k hk=>?_⟩
 by_cases hki:k=i
 ·subst hki
  have:k∉left.erase k:=hn.not_mem_erase
  simp[Array.getD,h.size,hk,this,hl]
 ·rw[Go.getD_set_ne true (fun e=>hki e.symm),h.pos k hk,List.mem_erase_of_ne hki]
theorem nU {P:Program} {ops:Array Oper} {Q:Exit->Act->World->Prop} {js:List Nat} {fst:Nat} {rest:List Nat} {full:Array Bool} (hok:Di ops js fst rest=true) (hfull:zW ops.size full [] (fst::rest)=true)
 (k:Nat) (a:Act) (G:List Nat->World->Prop)
 (hs:∀left i w,left.Nodup->i∈left->i∈js->G left w->wpOp P ops Q i (fun a' w'=>a'=a/\G (left.erase i) w') a w)
 (hl:∀w,G [] w->wpAny P .any ops Q k full a w):
 ∀(m:Nat) (left:List Nat) (listed:Array Bool) (w:World),left.length=m->(∀j∈left,j∈js)->left.Nodup->jl ops.size listed left (fst::rest)->G left w->wpAny P .any ops Q (m+k) listed a w:=by
 simp only[Di,Bool.and_eq_true,List.all_eq_true,Option.any_eq_true,Option.all_eq_true,Array.all_eq_true_iff_forall_mem,Array.any_eq_true',Bool.or_eq_true,Bool.not_eq_true',beq_iff_eq,decide_eq_true_eq]at hok
 obtain⟨h1,h2,h3,h4⟩:=hok
 intro m
 induction m with
 |zero=>
  intro left listed w hm hj hn hL hG
  have h0:left=[]:=List.eq_nil_of_length_eq_zero hm
  subst h0
  rw[hL.same (jl.of hfull),Nat.zero_add]
  exact hl w hG
 |succ m ih=>
  intro left listed w hm hj hn hL hG
  rw[Nat.add_right_comm]
  cases left with
  |nil=>cases hm
  |cons j0 r0=>
  have hj0:=hj j0 (List.mem_cons_self ..)
  have hne:∀j∈j0::r0,j∈Region.ready .any ops listed/\j<ops.size/\j∉fst::rest:=fun j hjl=>by
   obtain⟨o,ho,ha⟩:=h1 j (hj j hjl)
   have hlt:=(ap ho).1
   have hd:∀e∈o.after,Region.binds .any e=true->listed.getD e.on false=true:=fun e he hb=>by
    have:=(ha e he).resolve_left (by simp[hb])
    have h5:=this.2
    simp only[Bool.or_eq_false_iff]at h5
    exact hL.done this.1 (fun h=>by have:=h5.1;rw[List.contains_iff_mem.2 (hj _ h)]at this;cases this) (fun h=>by have:=h5.2;rw[List.contains_iff_mem.2 h]at this;cases this)
   refine⟨mem_ready.2 ⟨(hL.pos j hlt).2 (.inl hjl),o,ho,hd⟩,hlt,fun hje=>?_⟩
   rcases List.mem_cons.1 hje with rfl|hr
   ·obtain⟨e,he,hb,hej⟩:=h2 o ho j (hj j hjl)
    exact hL.undone hlt (.inl hjl) (hej▸hd e he hb)
   ·obtain⟨e,he,hb,hej⟩:=h3 j hr o ho
    exact hL.undone h4 (.inr (List.mem_cons_self ..)) (hej▸hd e he hb)
  have hj1:=hne j0 (List.mem_cons_self ..)
  refine⟨fun h0=>absurd hj1.1 (by rw[h0];simp),fun i hi=>?_⟩
  have h5:=mem_ready.1 hi
  obtain⟨o,ho,ha⟩:=h5.2
  rcases(hL.pos i (ap ho).1).1 h5.1 with h|h
  ·refine wpOp_mono (fun a' w' h'=>?_) (hs (j0::r0) i w hn h (hj i h) hG)
   obtain⟨rfl,hG'⟩:=h'
   exact ih ((j0::r0).erase i) _ w' (by rw[List.length_erase_of_mem h,hm];rfl) (fun j hj'=>hj j (List.mem_of_mem_erase hj')) (hn.erase i) (hL.step hn (hne i h).2.2) hG'
  ·rcases List.mem_cons.1 h with rfl|hr
   ·obtain⟨e,he,hb,hej⟩:=h2 o ho j0 hj0
    exact absurd (hej▸ha e he hb) (hL.undone hj1.2.1 (.inl (List.mem_cons_self ..)))
   ·obtain⟨e,he,hb,hej⟩:=h3 i hr o ho
    exact absurd (hej▸ha e he hb) (hL.undone h4 (.inr (List.mem_cons_self ..)))
structure mT {κ ν:Type} [DecidableEq κ] (w:World) (b:Nat) (ek:κ->Value) (ev:ν->Value) (okk:κ->Prop) (js:List Nat) (it:Nat->κ×ν) (left:List Nat) (u:World):Prop where
 map:∃L,n7 w u b ek ev okk L/\(∀j∈js,aP L (it j).1=if j∈left then none else some (it j).2)/\∀k,(∀j∈js,(it j).1≠k)->aP L k=none
theorem mT.start {κ ν:Type} [DecidableEq κ] {w u:World} {b:Nat} {ek:κ->Value} {ev:ν->Value} {okk:κ->Prop} {js:List Nat} {it:Nat->κ×ν} (h:n7 w u b ek ev okk []):mT w b ek ev okk js it js u:=
 ⟨[],h,fun j hj=>by rw[if_pos hj];rfl,fun _ _=>rfl⟩
theorem mT.put {P:Program} {κ ν:Type} [DecidableEq κ] {w u:World} {b:Nat} {ek:κ->Value} {ev:ν->Value} {okk:κ->Prop} {js left:List Nat} {it:Nat->κ×ν} {t kt et:TypeId} (K:KE P kt ek okk) (ht:P.underlying t=some (.map kt et))
 (hinj:∀i∈js,∀j∈js,(it i).1=(it j).1->i=j) (h:mT w b ek ev okk js it left u) {i:Nat} (hi:i∈js) (hk:okk (it i).1) (hn:left.Nodup):
 ∃u',(Instr.mapUpdate t (.map (some b)) (ek (it i).1) (ev (it i).2)).run P u=.ok () u'/\mT w b ek ev okk js it (left.erase i) u':=by
 obtain⟨L,hM,h1,h2⟩:=h.map
 obtain⟨u',e,hM',-⟩:=hM.put K ht hk (it i).2
 refine⟨u',e,⟨_,hM',fun j hj=>?_,fun k hk'=>?_⟩⟩
 ·by_cases hji:j=i
  ·subst hji
   rw[my,if_neg hn.not_mem_erase]
  ·rw[io _ _ _ _ (fun e=>hji (hinj j hj i hi e)),h1 j hj]
   simp only[List.mem_erase_of_ne hji]
 ·rw[io _ _ _ _ (fun e=>hk' i hi e.symm),h2 k hk']
def Cr {κ ν:Type} [DecidableEq κ] (w u:World) (b:Nat) (ek:κ->Value) (ev:ν->Value) (okk:κ->Prop) (l:List (κ×ν)):Prop:=∃L,n7 w u b ek ev okk L/\∀k,aP L k=aP l k
theorem mT.all {κ ν:Type} [DecidableEq κ] {w u:World} {b:Nat} {ek:κ->Value} {ev:ν->Value} {okk:κ->Prop} {js:List Nat} {it:Nat->κ×ν} {l:List (κ×ν)} (hl:js.map it=l) (hd:(l.map (·.1)).Nodup) (h:mT w b ek ev okk js it [] u):Cr w u b ek ev okk l:=by
 obtain⟨L,hM,h1,h2⟩:=h.map
 refine⟨L,hM,fun k=>?_⟩
 by_cases hk:∃j∈js,(it j).1=k
 ·obtain⟨j,hj,rfl⟩:=hk
  rw[h1 j hj,if_neg (by simp),ie hd (by rw[<-hl];exact List.mem_map.2 ⟨j,hj,rfl⟩)]
 ·have hk':∀j∈js,(it j).1≠k:=fun j hj e=>hk ⟨j,hj,e⟩
  rw[h2 k hk',iY (fun x hx=>?_)]
  rw[<-hl]at hx
  obtain⟨j,hj,rfl⟩:=List.mem_map.1 hx
  exact hk' j hj
def oZ:List Nat:=[2,4,6,8,10,12,14,16,18,20,22]
def vx:Nat->PK×Int
 |2=>(([116,114,117,101],0),1)
 |4=>(([102,97,105,108],0),7)
 |6=>(([33],0),6)
 |8=>(([44],2),2)
 |10=>(([59],2),3)
 |12=>(([45,62],2),4)
 |14=>(([92,43],1),5)
 |16=>(([99,97,108,108],1),8)
 |18=>(([99,97,116,99,104],3),9)
 |20=>(([116,104,114,111,119],1),10)
 |22=>(([102,105,110,100,97,108,108],3),11)
 |_=>(([],0),0)
def ql:List (PK×Int):=oZ.map vx
def kq (w u:World) (b:Nat):Prop:=Cr w u b pk sQ ez ql
theorem kW (w:World):Calls prog 237 #[] w fun e w'=>∃b,e=.returned (.map (some b))/\kq w w' b:=by
 have M0:=n7.made (ek:=pk) (ev:=sQ) (okk:=ez) (w:=w) (u:=w.drew) (aA.drew)
 obtain⟨u0,hu0⟩:∃u,u=w.drew.alloc (.map #[] 0):=⟨_,rfl⟩
 have hmm:(Instr.makeMap 335 none).run prog w.drew=.ok (.map (some w.heap.size)) u0:=by
  rw[hu0]
  simp[Instr.makeMap,Result.andThen]
 rw[<-hu0,show w.drew.heap.size=w.heap.size from rfl]at M0
 clear hu0
 have HM:=ad M0
 clear M0
 go_enter func237,ntmps237
 go_wp2_with fail
 refine wp_region_any (by kernel_rfl) ?_
 refine wpAny_take (i:=1) (v:=.agg #[.string ⟨#[116,114,117,101]⟩,ae 0]) rfl (by kernel_rfl) (by kernel_rfl) (by kernel_rfl) (fun _ _ _ h=>h) (Or.inl ⟨by rfl,by intro w;go_simp⟩) ?_
 refine wpAny_take (i:=3) (v:=.agg #[.string ⟨#[102,97,105,108]⟩,ae 0]) rfl (by kernel_rfl) (by kernel_rfl) (by kernel_rfl) (fun _ _ _ h=>h) (Or.inl ⟨by rfl,by intro w;go_simp⟩) ?_
 refine wpAny_take (i:=5) (v:=.agg #[.string ⟨#[33]⟩,ae 0]) rfl (by kernel_rfl) (by kernel_rfl) (by kernel_rfl) (fun _ _ _ h=>h) (Or.inl ⟨by rfl,by intro w;go_simp⟩) ?_
 refine wpAny_take (i:=7) (v:=.agg #[.string ⟨#[44]⟩,ae 2]) rfl (by kernel_rfl) (by kernel_rfl) (by kernel_rfl) (fun _ _ _ h=>h) (Or.inl ⟨by rfl,by intro w;go_simp⟩) ?_
 refine wpAny_take (i:=9) (v:=.agg #[.string ⟨#[59]⟩,ae 2]) rfl (by kernel_rfl) (by kernel_rfl) (by kernel_rfl) (fun _ _ _ h=>h) (Or.inl ⟨by rfl,by intro w;go_simp⟩) ?_
 refine wpAny_take (i:=11) (v:=.agg #[.string ⟨#[45,62]⟩,ae 2]) rfl (by kernel_rfl) (by kernel_rfl) (by kernel_rfl) (fun _ _ _ h=>h) (Or.inl ⟨by rfl,by intro w;go_simp⟩) ?_
 refine wpAny_take (i:=13) (v:=.agg #[.string ⟨#[92,43]⟩,ae 1]) rfl (by kernel_rfl) (by kernel_rfl) (by kernel_rfl) (fun _ _ _ h=>h) (Or.inl ⟨by rfl,by intro w;go_simp⟩) ?_
 refine wpAny_take (i:=15) (v:=.agg #[.string ⟨#[99,97,108,108]⟩,ae 1]) rfl (by kernel_rfl) (by kernel_rfl) (by kernel_rfl) (fun _ _ _ h=>h) (Or.inl ⟨by rfl,by intro w;go_simp⟩) ?_
 refine wpAny_take (i:=17) (v:=.agg #[.string ⟨#[99,97,116,99,104]⟩,ae 3]) rfl (by kernel_rfl) (by kernel_rfl) (by kernel_rfl) (fun _ _ _ h=>h) (Or.inl ⟨by rfl,by intro w;go_simp⟩) ?_
 refine wpAny_take (i:=19) (v:=.agg #[.string ⟨#[116,104,114,111,119]⟩,ae 1]) rfl (by kernel_rfl) (by kernel_rfl) (by kernel_rfl) (fun _ _ _ h=>h) (Or.inl ⟨by rfl,by intro w;go_simp⟩) ?_
 refine wpAny_take (i:=21) (v:=.agg #[.string ⟨#[102,105,110,100,97,108,108]⟩,ae 3]) rfl (by kernel_rfl) (by kernel_rfl) (by kernel_rfl) (fun _ _ _ h=>h) (Or.inl ⟨by rfl,by intro w;go_simp⟩) ?_
 refine wpAny_all (rs:=[0]) (by kernel_rfl) (by simp) (fun i hi=>?_)
 obtain rfl:i=0:=by simpa using hi
 refine wpOp_step rfl (fun K hK=>?_)
 rw[if_pos (by rfl)]
 go_simp
 refine hK _ _ ?_
 refine nU (js:=oZ) (fst:=23) (rest:=[24]) (full:=(Array.replicate 23 true).push false|>.push false) (by kernel_rfl) (by kernel_rfl) 2 _ (fun left u=>mT w w.heap.size pk sQ ez oZ vx left u) ?hs ?hl 11 oZ _ _ rfl (fun _ h=>h) (by decide) (jl.of (by kernel_rfl)) (mT.start HM.out)
 case hs=>
  intro left i u hn hi hj hG
  obtain⟨u',e,hG'⟩:=hG.put Ep underlying335 (by decide) hj ((show∀i∈oZ,ez (vx i).1 by unfold ez;decide) i hj) hn
  have HG:=ad hG'
  clear hG hG' hmm HM hK hi
  simp only[oZ,List.mem_cons,List.not_mem_nil,or_false]at hj
  rcases hj with rfl|rfl|rfl|rfl|rfl|rfl|rfl|rfl|rfl|rfl|rfl
  all_goals
   simp only[vx,pk,sQ]at e
   refine wpOp_step rfl (fun K hK=>?_)
   rw[if_pos (by rfl)]
   go_simp
   exact hK _ _ ⟨rfl,HG.out⟩
 case hl=>
  intro u hG
  have HG:=ad (hG.all (l:=ql) rfl (by decide))
  clear hG
  refine wpAny_take (i:=23) (v:=.map (some w.heap.size)) rfl (by kernel_rfl) (by kernel_rfl) (by kernel_rfl) (fun _ _ _ h=>h) (Or.inl ⟨by rfl,by intro w;go_simp⟩) ?_
  refine wpAny_take (i:=24) (v:=.map (some w.heap.size)) rfl (by kernel_rfl) (by kernel_rfl) (by kernel_rfl) (fun _ _ _ h=>h) (Or.inl ⟨by rfl,by intro w;go_simp⟩) ?_
  refine wpAny_done (by kernel_rfl) ?_ 0
  clear hmm HM hi hK K
  go_wp2_with fail
  go_ret
  exact⟨_,rfl,HG.out⟩
end
end Go.Proofs.YtigeofkllldilaaGreatDoor
