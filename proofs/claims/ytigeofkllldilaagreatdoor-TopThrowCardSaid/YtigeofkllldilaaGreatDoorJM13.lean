import Derived.Test.YtigeofkllldilaaGreatDoorJM06
import Derived.Test.YtigeofkllldilaaGreatDoorJM02
import Derived.Shelf.Strconv.Itoa4
set_option maxHeartbeats 32000000
set_option maxRecDepth 100000
set_option linter.unusedSectionVars false
open Go.Proofs.Tryz
namespace Go.Proofs.YtigeofkllldilaaGreatDoor
section
open Go.RowKit Go.Maps
def ub (p:PS):Prop:=∀x∈p.fr,x.2<p.cs.length
structure fB (p q:PS) (m:Nat):Prop where
 ge:p.cs.length<=q.cs.length
 le:q.cs.length<=p.cs.length+m
 old:∀i,i<p.cs.length->q.cs[i]?=p.cs[i]?
 fr:ub q
theorem fB.trans {p q r:PS} {m n:Nat} (h:fB p q m) (h':fB q r n):fB p r (m+n):=
 ⟨Nat.le_trans h.ge h'.ge,by have:=h.le;have:=h'.le;omega,fun i hi=>(h'.old i (Nat.lt_of_lt_of_le hi h.ge)).trans (h.old i hi),h'.fr⟩
theorem fB.add (p:PS) (c:Sc) (fr:List (Int×Nat)) (hf:∀x∈fr,x∈p.fr\/x.2=p.cs.length) (h:ub p):fB p ⟨p.cs++[c],fr⟩ 1:=
 ⟨by simp,by simp,fun i hi=>List.getElem?_append_left hi,fun x hx=>by
  show x.2<(p.cs++[c]).length
  rw[List.length_append,List.length_singleton]
  rcases hf x hx with e|e
  ·have:=h x e;omega
  ·omega⟩
mutual
theorem iJ:∀(t:Tm) (p:PS),ub p->fB p (aV t p).2 t.size/\(aV t p).1<(aV t p).2.cs.length
 | .mk k n s l,p,h=>by
  by_cases h1:k=1
  ·cases hg:aP p.fr n with
   |some a=>
    have e:aV (.mk k n s l) p=(a,p):=by rw[aV,if_pos h1,hg]
    rw[e]
    exact⟨⟨aC,Nat.le_add_right _ _,fun _ _=>rfl,h⟩,h _ (dA hg)⟩
   |none=>
    have e:aV (.mk k n s l) p=(p.cs.length,⟨p.cs++[⟨1,0,[],[],none⟩],p.fr++[(n,p.cs.length)]⟩):=by rw[aV,if_pos h1,hg]
    rw[e]
    have:=fB.add p ⟨1,0,[],[],none⟩ (p.fr++[(n,p.cs.length)]) (fun x hx=>(List.mem_append.1 hx).imp id fun e=>by rw[List.mem_singleton]at e;rw[e]) h
    exact⟨⟨this.ge,by simp only[Tm.size,List.length_append,List.length_singleton];omega,this.old,this.fr⟩,by simp⟩
  ·by_cases h4:k=4
   ·have e:aV (.mk k n s l) p=(p.cs.length,⟨(bW l ⟨p.cs++[⟨4,0,s,[],none⟩],p.fr⟩).2.cs.set p.cs.length ⟨4,0,s,(bW l ⟨p.cs++[⟨4,0,s,[],none⟩],p.fr⟩).1,none⟩,(bW l ⟨p.cs++[⟨4,0,s,[],none⟩],p.fr⟩).2.fr⟩):=by rw[aV,if_neg h1,if_pos h4]
    rw[e]
    have h5:=fB.add p ⟨4,0,s,[],none⟩ p.fr (fun x hx=>.inl hx) h
    obtain⟨h6,-,-⟩:=kv l _ h5.fr
    have h7:=h5.trans h6
    have h8:=h6.ge
    simp only[List.length_append,List.length_singleton]at h8
    refine⟨⟨by simp only[List.length_set];exact h7.ge,by simp only[List.length_set,Tm.size];have:=h7.le;omega,fun i hi=>?_,fun x hx=>?_⟩,by simp only[List.length_set];omega⟩
    ·simp only
     rw[List.getElem?_set_ne (by omega)]
     exact h7.old i hi
    ·show x.2<(List.set _ _ _).length
     rw[List.length_set]
     exact h7.fr x hx
   ·have e:aV (.mk k n s l) p=(p.cs.length,⟨p.cs++[⟨k,n,s,[],none⟩],p.fr⟩):=by rw[aV,if_neg h1,if_neg h4]
    rw[e]
    have:=fB.add p ⟨k,n,s,[],none⟩ p.fr (fun x hx=>.inl hx) h
    exact⟨⟨this.ge,by simp only[Tm.size,List.length_append,List.length_singleton];omega,this.old,this.fr⟩,by simp⟩
theorem kv:∀(l:List Tm) (p:PS),ub p->fB p (bW l p).2 (Tm.sizes l)/\(∀a∈(bW l p).1,a<(bW l p).2.cs.length)/\(bW l p).1.length=l.length
 |[],p,h=>by
  rw[bW]
  exact⟨⟨aC,aC,fun _ _=>rfl,h⟩,fun a ha=>(by cases ha),rfl⟩
 |t::r,p,h=>by
  obtain⟨h1,h2⟩:=iJ t p h
  obtain⟨h3,h4,h5⟩:=kv r _ h1.fr
  rw[bW]
  refine⟨h1.trans h3,fun a ha=>?_,by simp[h5]⟩
  rcases List.mem_cons.1 ha with rfl|ha
  ·exact Nat.lt_of_lt_of_le h2 h3.ge
  ·exact h4 a ha
end
variable[Base]
omit[Base]in
theorem o7:∀(l:List Tm) (t:Tm) (p:PS),bW (l++[t]) p=((bW l p).1++[(aV t (bW l p).2).1],(aV t (bW l p).2).2)
 |[],t,p=>by rw[List.nil_append,bW,bW,bW];rfl
 |a::r,t,p=>by rw[List.cons_append,bW,o7 r t,bW];rfl
omit[Base]in
theorem bP.args {cs:List Sc} {i j q:Nat} {c:Sc} {l:List Nat} (hc:cs[q]?=some c) (h:bP cs i j):bP (cs.set q {c with args:=l}) i j:=by
 induction h with
 |@here i d h ht=>
  by_cases e:i=q
  ·subst e
   rw[hc]at h
   injection h with h
   subst h
   exact .here (c:= {c with args:=l}) (List.getElem?_set_self (aq hc).1) ht
  ·exact .here (by rw[List.getElem?_set_ne (Ne.symm e)];exact h) ht
 |@step i k r d h ht _ ih=>
  by_cases e:i=q
  ·subst e
   rw[hc]at h
   injection h with h
   subst h
   exact .step (c:= {c with args:=l}) (List.getElem?_set_self (aq hc).1) ht ih
  ·exact .step (by rw[List.getElem?_set_ne (Ne.symm e)];exact h) ht ih
section
variable {sb room:Nat} {u u':World} {cv bv:Value} {xs:List ec} {cs:List Sc} {ys:List (Nat×Int)}
theorem aL.args' {g cap:Nat} (h:aL sb room u (al g cs.length cap) bv xs cs ys) {i:Nat} {x:ec} {c:Sc} (hx:xs[i]?=some x) (hc:cs[i]?=some c) {A:Option Addr} {l:List Nat} {m cp:Nat} (hm:m=l.length) (ha:bn u A l) (hl:∀a∈l,a<cs.length) (h255:l.length<=255):
 aL sb room (u.setCell (ak g (i*6+3)) (.slice A m cp)) (al g cs.length cap) bv (xs.set i {x with A:=A,m:=m,c:=cp}) (cs.set i {c with args:=l}) ys:=by
 have hg:aR u 378 g:=h.row.ty rfl
 have hk:∀ {b t'},aR u t' b->t'≠378->(u.setCell (ak g (i*6+3)) (.slice A m cp)).heap[b]?=u.heap[b]?:=fun hb hn=>av _ _ _ _ (hb.ne hg hn)
 refine⟨(hk ⟨_,h.blk⟩ (by decide)).trans h.blk,h.row.put fI hx (by decide) rfl,h.bonds.keep fun k hk'=>hk (h.bonds.ty hk') (by decide),by rw[List.length_set,List.length_set];exact h.len,fun j y d hy hd=>?_,by rw[List.length_set];exact h.few,h.room,fun j hj=>?_,fun j d hd a haa=>?_,fun j d hd=>?_,fun y hy=>by rw[List.length_set];exact h.bnd y hy,h.many⟩
 ·by_cases e:j=i
  ·subst e
   rw[List.getElem?_set_self (aq hx).1]at hy
   rw[List.getElem?_set_self (aq hc).1]at hd
   injection hy with hy
   injection hd with hd
   subst hy hd
   have ho:=h.ok j x c hx hc
   exact⟨ho.k,ho.n,ho.s,ho.to,hm,ha.keep fun b hb=>hk hb (by decide),ho.short,ho.top⟩
  ·rw[List.getElem?_set_ne (Ne.symm e)]at hy hd
   have ho:=h.ok j y d hy hd
   exact⟨ho.k,ho.n,ho.s,ho.to,ho.m,ho.args.keep fun b hb=>hk hb (by decide),ho.short,ho.top⟩
 ·rw[List.length_set]at hj
  obtain⟨r,hr⟩:=h.flw j hj
  exact⟨r,hr.args hc⟩
 ·rw[List.length_set]
  by_cases e:j=i
  ·subst e
   rw[List.getElem?_set_self (aq hc).1]at hd
   injection hd with hd
   subst hd
   exact hl a haa
  ·rw[List.getElem?_set_ne (Ne.symm e)]at hd
   exact h.args j d hd a haa
 ·by_cases e:j=i
  ·subst e
   rw[List.getElem?_set_self (aq hc).1]at hd
   injection hd with hd
   subst hd
   exact h255
  ·rw[List.getElem?_set_ne (Ne.symm e)]at hd
   exact h.ar j d hd
end
def jD (fr:List (Int×Nat)):List (Int×Int):=fr.map fun x=>(x.1,(x.2:Int))
omit[Base]in
theorem mg (fr:List (Int×Nat)) (n:Int):aP (jD fr) n=(aP fr n).map (fun a:Nat=>(a:Int)):=by
 unfold jD aP
 rw[List.find?_map,Option.map_map,Option.map_map]
 rfl
omit[Base]in
theorem CA (fr:List (Int×Nat)) (n:Int) (a:Nat) (h:aP fr n=none):cL (jD fr) n (a:Int)=jD (fr++[(n,a)]):=by
 unfold cL
 rw[mg,h]
 simp[jD]
end
section
open Go.RowKit Go.Maps
variable[Base]
def ij (pb sb:Nat) (vb:Option Nat) (fb room:Nat) (u:World) (bv:Value) (xs:List ec) (need:Nat) (cs:List Sc) (fr:List (Int×Nat)) (ys:List (Nat×Int)) (t:Tm) (e:Ending) (u':World):Prop:=
 e=.returned (ae ((aV t ⟨cs,fr⟩).1:Nat))/\eC pb sb vb fb u' need (jD (aV t ⟨cs,fr⟩).2.fr)/\(∃cv' xs',aL sb room u' cv' bv xs' (aV t ⟨cs,fr⟩).2.cs ys/\∀b,sJ xs' b->sJ xs b\/u.heap.size<=b)/\Fr (fun k=>k=fb\/fc iw u k) u u'
section
variable {pb sb fb room:Nat} {vb:Option Nat} {u u':World} {need:Nat} {cv bv:Value} {xs:List ec} {cs:List Sc} {fr:List (Int×Nat)} {ys:List (Nat×Int)}
theorem eC.tf {l:List (Int×Int)} {tys:List TypeId} (h:eC pb sb vb fb u need l) (hf:TF tys u u') (hn:395∉tys):eC pb sb vb fb u' need l:=
 ⟨(hf.block (t:=395) ⟨_,h.blk⟩ hn).trans h.blk,⟨fun b e=>⟨hf.map (h.vars.at' b e).map,(h.vars.at' b e).ok⟩⟩,⟨hf.map h.fresh.map,h.fresh.ok⟩,h.ne⟩
theorem A7 (h:TF iw u u') (fb:Nat):Fr (fun k=>k=fb\/fc iw u k) u u':=h.fr.weak fun _ hk=>.inr hk
theorem CQ (u:World) (x:TV) (hk:x.k=1) (hn:fP x.n) (hp:eC pb sb vb fb u need (jD fr)) (hs:aL sb room u cv bv xs cs ys) (hr:cs.length+1<=room):
 Calls prog 281 #[ah pb,aU x] u (ij pb sb vb fb room u bv xs need cs fr ys (.mk 1 x.n [] [])):=by
 refine aa fun P hP=>?_
 have HP:=ad hP
 obtain⟨k,n,s,A,len,c⟩:=x
 simp only at hk hn hP HP
 subst hk
 obtain⟨U,hU⟩:∃U,U=u.alloc (.cells #[ae 1,ae n,af s,.slice A len c] 27):=⟨_,rfl⟩
 have hbU:aE u U:=by rw[hU];exact aB
 have hz:U.heap[u.heap.size]?=some (.cells #[ae 1,ae n,af s,.slice A len c] 27 (0,0)):=by rw[hU];exact az
 obtain⟨z0,z1,z2,z3,-⟩:=aH hz
 obtain⟨p0,p1,p2,p3,pf⟩:=aH (hp.later hbU).blk
 have hlU:=(hp.later hbU).lt
 have hlz:u.heap.size<U.heap.size:=(ap hz).1
 have k1:=((hp.later hbU).vars.later aA.drew).miss n hn
 have H:=ad (aD (hp.later hbU) (hs.later hbU))
 have HB:=ad hbU
 have HZ:=ad hz
 clear hP hp hs hbU hz
 unfold aU
 go_enter func281,ntmps281
 go_upto_region 1 with fail
 rw[<-hU]
 clear hU
 go_upto_region 3 with fail
 go_region
 obtain⟨V,hV⟩:∃V,V=U.drew:=⟨_,rfl⟩
 have hbV:aE U V:=by rw[hV];exact aA.drew
 rw[<-hV]
 clear k1 p0 p1 p2 p3 pf z0 z1 z2 z3 hlU
 have HV:=ad (aD (H.1.later hbV) (H.2.later hbV))
 have hz:V.heap[u.heap.size]?=some (.cells #[ae 1,ae n,af s,.slice A len c] 27 (0,0)):=(hbV.block _ hlz).trans HZ.out
 obtain⟨z0,z1,z2,z3,-⟩:=aH hz
 obtain⟨p0,p1,p2,p3,pf⟩:=aH HV.1.blk
 have hlV:=HV.1.lt
 have HBV:=ad (dQ HB.out hbV)
 have hlz2:u.heap.size<V.heap.size:=(ap hz).1
 have HZV:=ad hz
 clear hV hbV H HB hz hlz HZ
 cases hg:aP fr n with
 |some a=>
  have hg2:aP (jD fr) n=some (a:Int):=by rw[mg,hg];rfl
  have k2:=(HV.1.fresh.later aA.drew).hit n hn hg2
  have HQ:Hid (P (.returned (ae (a:Nat))) V.drew):=ad (by
   have e:aV (.mk 1 n [] []) ⟨cs,fr⟩=(a,⟨cs,fr⟩):=by rw[aV,if_pos rfl,hg]
   rw[HP.out]
   unfold ij
   rw[e]
   exact⟨rfl,HV.1.later aA.drew,⟨_,_,HV.2.later aA.drew,fun b hb=>.inl hb⟩,Fr.of_below _ HBV.drew⟩)
  clear hg hg2
  go_upto_region 6 with fail
  go_region
  go_wp2_with fail
  exact HQ.out
 |none=>
  have hg2:aP (jD fr) n=none:=by rw[mg,hg];rfl
  have k2:=(HV.1.fresh.later aA.drew).lack n hn hg2
  go_upto_region 6 with fail
  go_region
  obtain⟨V2,hV2⟩:∃V2,V2=V.drew:=⟨_,rfl⟩
  have hbV:aE V V2:=by rw[hV2];exact aA.drew
  rw[<-hV2]
  have HV2:=ad (aD (HV.1.later hbV) (HV.2.later hbV))
  have HB2:=ad (dQ HBV.out hbV)
  have HZ2:=ad ((hbV.block _ hlz2).trans HZV.out)
  clear hV2 k2 z0 z1 z2 z3 p0 p1 p2 p3 pf hlV hbV
  obtain⟨p0,-,-,-,pf⟩:=aH HV2.1.blk
  have hlV:=HV2.1.lt
  go_wp2_with fail
  refine(sU HV2.2 1 0 [] hr (Nat.zero_le _)).mono ?_
  rintro e W ⟨rfl,⟨cv3,xs3,hs3,hab3⟩,hf3⟩
  have HW:=ad (aD (HV2.1.tf hf3 (by decide)) (aD hs3 (aD hf3 hab3)))
  have hz3:W.heap[u.heap.size]?=some (.cells #[ae 1,ae n,af s,.slice A len c] 27 (0,0)):=(hf3.block (t:=27) ⟨_,HZ2.out⟩ (by decide)).trans HZ2.out
  obtain⟨z0,z1,z2,z3,-⟩:=aH hz3
  obtain⟨w',k3,k4,k5,k6⟩:=(HW.1.fresh.later aA.drew).put n hn (cs.length:Nat)
  rw[CA fr n cs.length hg]at k4
  clear p0 pf hlV hs3 hf3 hab3
  obtain⟨p0,p1,p2,p3,pf⟩:=aH HW.1.blk
  have hlV:=HW.1.lt
  have hlz3:u.heap.size<W.heap.size:=(ap hz3).1
  have HQ:Hid (P (.returned (ae (cs.length:Nat))) w'):=ad (by
   have e:aV (.mk 1 n [] []) ⟨cs,fr⟩=(cs.length,⟨cs++[⟨1,0,[],[],none⟩],fr++[(n,cs.length)]⟩):=by rw[aV,if_pos rfl,hg]
   have hap:=HW.1.apart
   have hnb:∀k,k<W.heap.size->k≠fb->w'.heap[k]?=W.heap[k]?:=fun k hk hn=>k5.block k hk (fun e=>hn (Option.some.inj e))
   rw[HP.out]
   unfold ij
   rw[e]
   refine⟨rfl,⟨(hnb _ HW.1.lt hap.2).trans HW.1.blk,HW.1.vars.keep fun b e hl=>hnb _ hl (fun e'=>HW.1.ne (e.trans (congrArg some e'))),k4,HW.1.ne⟩,⟨_,_,HW.2.1.keep fun t b _ hb=>hnb b hb.lt (fun e=>HW.1.fresh.map.ne hb e.symm),fun b hb=>.inl (HW.2.2.2 b hb)⟩,?_⟩
   have h1:Fr (fun k=>k=fb\/fc iw u k) u W:=A7 (((TF.refl iw u).later HB2.out).trans HW.2.2.1) fb
   exact(h1.drew.grown k5 fun g e=>.inl (.inl (Option.some.inj e).symm)))
  clear hg hg2 k4 k5 k6 hz3
  go_upto_region 9 with fail
  go_region
  go_wp2_with fail
  exact HQ.out
theorem zM (u:World) (x:TV) (hk:x.k≠1) (hk4:x.k≠4) (hx:x.s.length<=maxLen) (hp:eC pb sb vb fb u need (jD fr)) (hs:aL sb room u cv bv xs cs ys) (hr:cs.length+1<=room):
 Calls prog 281 #[ah pb,aU x] u (ij pb sb vb fb room u bv xs need cs fr ys (.mk x.k x.n x.s [])):=by
 refine aa fun P hP=>?_
 have HP:=ad hP
 obtain⟨k,n,s,A,len,c⟩:=x
 simp only at hk hk4 hx hP HP
 obtain⟨U,hU⟩:∃U,U=u.alloc (.cells #[ae k,ae n,af s,.slice A len c] 27):=⟨_,rfl⟩
 have hbU:aE u U:=by rw[hU];exact aB
 have hz:U.heap[u.heap.size]?=some (.cells #[ae k,ae n,af s,.slice A len c] 27 (0,0)):=by rw[hU];exact az
 obtain⟨z0,z1,z2,z3,-⟩:=aH hz
 obtain⟨p0,-,-,-,pf⟩:=aH (hp.later hbU).blk
 have hlU:=(hp.later hbU).lt
 have hlz:u.heap.size<U.heap.size:=(ap hz).1
 have H:=ad (aD (hp.later hbU) (hs.later hbU))
 have HB:=ad hbU
 have HS:Hid (∀v,TF iw U v->v.cell? (ak pb 0)=some (ah sb)/\v.cell? (ak u.heap.size 0)=some (ae k)/\v.cell? (ak u.heap.size 1)=some (ae n)/\v.cell? (ak u.heap.size 2)=some (af s)):=ad fun v hv=>
  have h1:=hv.block (t:=395) ⟨_,H.1.blk⟩ (by decide)
  have h2:=hv.block (t:=27) ⟨_,hz⟩ (by decide)
  ⟨(World.cell?_of_block (a:=⟨pb,0,none⟩) h1).trans p0,(World.cell?_of_block (a:=⟨u.heap.size,0,none⟩) h2).trans z0,(World.cell?_of_block (a:=⟨u.heap.size,1,none⟩) h2).trans z1,(World.cell?_of_block (a:=⟨u.heap.size,2,none⟩) h2).trans z2⟩
 have b1:(k==1)=false:=beq_eq_false_iff_ne.2 hk
 have b2:(k==4)=false:=beq_eq_false_iff_ne.2 hk4
 have HK:=ad (aD hk hk4)
 clear hP hp hs hbU hz hk hk4
 unfold aU
 go_enter func281,ntmps281
 go_upto_region 1 with fail
 rw[<-hU]
 clear hU
 go_upto_region 21 with fail
 clear z0 z1 z2 z3 p0
 go_region_held3 (fun v=>v.cell? (ak pb 0)=some (ah sb)/\v.cell? (ak u.heap.size 0)=some (ae k)/\v.cell? (ak u.heap.size 1)=some (ae n)/\v.cell? (ak u.heap.size 2)=some (af s))
  (first|(with_reducible exact HS.out _ (TF.refl _ _))|(with_reducible exact HS.out _ (TF.refl _ _).drew)|(with_reducible exact HS.out _ ((TF.refl _ _).drew.trans hf5)))
  (first|(go_at_call 352;refine(sU (H.2.later aA.drew) k n s hr hx).mono ?_;rintro e w5 ⟨rfl,⟨cv5,xs5,hs5,hab5⟩,hf5⟩))
 have HQ:Hid (P (.returned (ae (cs.length:Nat))) w5):=ad (by
  have e:aV (.mk k n s []) ⟨cs,fr⟩=(cs.length,⟨cs++[⟨k,n,s,[],none⟩],fr⟩):=by rw[aV,if_neg HK.1,if_neg HK.2]
  rw[HP.out]
  unfold ij
  rw[e]
  exact⟨rfl,(H.1.later aA.drew).tf hf5 (by decide),⟨_,_,hs5,fun b hb=>.inl (hab5 b hb)⟩,A7 (((TF.refl iw u).later HB.out).drew.trans hf5) fb⟩)
 clear hs5 hf5 hab5
 go_wp2_with fail
 exact HQ.out
end
end
section
open Go.RowKit Go.Maps
variable[Base]
def E0 (pb sb:Nat) (vb:Option Nat) (fb room n:Nat):Prop:=∀(t:Tm) (u:World) (x:TV) (need:Nat) (cv bv:Value) (xs:List ec) (cs:List Sc) (fr:List (Int×Nat)) (ys:List (Nat×Int)),t.size<=n->aI u (aR u 27) x t->eC pb sb vb fb u need (jD fr)->aL sb room u cv bv xs cs ys->ub ⟨cs,fr⟩->t.may=true->(∀n∈dP t,fP n)->cs.length+t.size<=room→
 Calls prog 281 #[ah pb,aU x] u (ij pb sb vb fb room u bv xs need cs fr ys t)
structure Dv (pb sb:Nat) (vb:Option Nat) (fb room:Nat) (u:World) (bv:Value) (xs:List ec) (need:Nat) (ys:List (Nat×Int)) (ab n:Nat) (p1:PS) (args:List Tm) (wr:World) (q:Nat):Prop where
 pc:eC pb sb vb fb wr need (jD (bW (args.take q) p1).2.fr)
 st:∃cv' xs',aL sb room wr cv' bv xs' (bW (args.take q) p1).2.cs ys/\∀b,sJ xs' b->b≠ab/\(sJ xs b\/u.heap.size<=b)
 row:aS wr u.heap.size 3 1 fq (al ab n n) ((bW (args.take q) p1).1++List.replicate (n-q) 0)
 fr:Fr (fun k=>k=fb\/fc iw u k) u wr
 new:u.heap.size<=ab
omit[Base]in
theorem B1 {xs:List ec} {i b:Nat} {x:ec} {A:Option Addr} {m c:Nat} (h:sJ (xs.set i {x with A:=A,m:=m,c:=c}) b):sJ xs b\/∃off,A=some (ak b off):=by
 obtain⟨y,hy,off,e⟩:=h
 rcases List.mem_or_eq_of_mem_set hy with h|h
 ·exact .inl ⟨y,h,off,e⟩
 ·rw[h]at e
  exact .inr ⟨off,e⟩
omit[Base]in
theorem lQ:∀(q:Nat) (l:List Tm),Tm.sizes (l.take q)+Tm.sizes (l.drop q)=Tm.sizes l
 |0,l=>by simp[Tm.sizes]
 |q+1,[]=>by simp[Tm.sizes]
 |q+1,t::r=>by
  have:=lQ q r
  simp only[List.take_succ_cons,List.drop_succ_cons,Tm.sizes]
  omega
theorem zE {tys:List TypeId} {fb:Nat} {u v w:World} (h:Fr (fun k=>k=fb\/fc tys u k) u v) (h':Fr (fun k=>k=fb\/fc tys v k) v w):Fr (fun k=>k=fb\/fc tys u k) u w:=
 ⟨h'.os.trans h.os,h'.tape.trans h.tape,h'.output.trans h.output,Nat.le_trans h.size h'.size,fun k hk hn=>by
  have e1:=h.block k hk hn
  refine(h'.block k (Nat.lt_of_lt_of_le hk h.size) fun e=>hn ?_).trans e1
  rcases e with e|⟨h0,t,ht,cs,e⟩
  ·exact .inl e
  ·exact .inr ⟨h0,t,ht,cs,e1▸e⟩⟩
omit[Base]in
theorem eC.setN {pb sb fb:Nat} {vb:Option Nat} {u:World} {need:Nat} {l:List (Int×Int)} (h:eC pb sb vb fb u need l) {b i:Nat} {t:TypeId} (hb:aR u t b) (ht:395≠t) (v:Value):eC pb sb vb fb (u.setCell (ak b i) v) need l:=
 ⟨(av _ _ _ _ (aR.ne (t:=395) ⟨_,h.blk⟩ hb ht)).trans h.blk,h.vars.keep fun _ e _=>av _ _ _ _ (fun e'=>h.vars.ne hb (e.trans (congrArg some e'))),h.fresh.keep (av _ _ _ _ (h.fresh.map.ne hb)),h.ne⟩
theorem aL.abs_ty {sb room:Nat} {u:World} {cv bv:Value} {xs:List ec} {cs:List Sc} {ys:List (Nat×Int)} (h:aL sb room u cv bv xs cs ys) {b:Nat} (hb:sJ xs b):aR u 3 b:=by
 obtain⟨x,hx,off,e⟩:=hb
 obtain⟨i,hi⟩:=List.mem_iff_getElem?.1 hx
 have hl:=(aq hi).1
 obtain⟨c,hc⟩:∃c,cs[i]?=some c:=⟨_,au (by rw[<-h.len];exact hl)⟩
 have ha:=(h.ok i x c hi hc).args
 cases hl:c.args with
 |nil=>
  have:=ha.nil hl
  rw[e]at this
  cases this
 |cons a r=>
  obtain⟨b',off',e1,e2,-⟩:=ha.at' 0 a (by rw[hl];rfl)
  rw[e]at e1
  injection e1 with e1
  injection e1 with e1
  rw[e1]
  exact e2
section
variable {pb sb fb room:Nat} {vb:Option Nat} {u u':World} {need:Nat} {cv bv:Value} {xs:List ec} {cs:List Sc} {fr:List (Int×Nat)} {ys:List (Nat×Int)}
theorem zC (m:Nat) (hC:E0 pb sb vb fb room m) (u:World) (x:TV) (t:Tm) (hsz:t.size<=m+1) (hk:x.k=4) (hx:aI u (aR u 27) x t) (hp:eC pb sb vb fb u need (jD fr)) (hs:aL sb room u cv bv xs cs ys) (hfl:ub ⟨cs,fr⟩) (hmay:t.may=true) (hv:∀n∈dP t,fP n) (hroom:cs.length+t.size<=room):
 Calls prog 281 #[ah pb,aU x] u (ij pb sb vb fb room u bv xs need cs fr ys t):=by
 refine aa fun P hP=>?_
 have HP:=ad hP
 cases hx with
 |mk _ args xa h1 h2 h3 hc ht=>
 obtain⟨k,n,s,A,len,c⟩:=x
 simp only at hk h1 h2 h3 hc ht HP hsz hmay hv hroom hP
 subst hk
 obtain⟨p1,hp1⟩:∃p1:PS,p1=⟨cs++[⟨4,0,s,[],none⟩],fr⟩:=⟨_,rfl⟩
 have HA:Hid ((∀(i:Nat) a,args[i]?=some a->a.may=true/\(∀n∈dP a,fP n))/\Tm.sizes args<=m/\cs.length+1+Tm.sizes args<=room/\args.length=len/\len<=255/\0<len):=ad (by
  have hsz:1+Tm.sizes args<=m+1:=by simpa only[Tm.size]using hsz
  have hnd:cs.length+(1+Tm.sizes args)<=room:=by simpa only[Tm.size]using hroom
  refine⟨fun i a ha=>⟨eY hmay a (List.mem_of_getElem? ha),fun n hn=>hv n ?_⟩,by omega,by omega,h2,?_,?_⟩
  ·rw[dP]
   exact List.mem_append_right _ (ma (List.mem_of_getElem? ha) hn)
  ·rw[<-h2]
   exact qg hmay
  ·rw[<-h2]
   exact Cb hmay)
 have hn0:=(eX hmay).2.2 rfl
 subst hn0
 have HXS:=ad (aD h1 (aD hc ht))
 have HM:=ad hC
 have HT0:Hid (∀b,aR u 27 b->¬(b=fb\/fc iw u b)):=ad fun b hb e=>by
  rcases e with e|⟨-,t',e1,e2⟩
  ·exact hp.fresh.map.ne hb e.symm
  ·have:=hb.same e2
   subst this
   exact absurd e1 (by decide)
 obtain⟨U,hU⟩:∃U,U=u.alloc (.cells #[ae 4,ae 0,af s,.slice A len c] 27):=⟨_,rfl⟩
 have hbU:aE u U:=by rw[hU];exact aB
 have hz:U.heap[u.heap.size]?=some (.cells #[ae 4,ae 0,af s,.slice A len c] 27 (0,0)):=by rw[hU];exact az
 obtain⟨z0,z1,z2,z3,-⟩:=aH hz
 obtain⟨q0,-,-,-,pf⟩:=aH (hp.later hbU).blk
 have hlU:=(hp.later hbU).lt
 have hlz:u.heap.size<U.heap.size:=(ap hz).1
 have H:=ad (aD (hp.later hbU) (hs.later hbU))
 have HB:=ad hbU
 have HZ:=ad hz
 have HS:Hid (∀v,TF iw U v->v.cell? (ak pb 0)=some (ah sb)/\v.cell? (ak u.heap.size 2)=some (af s)):=ad fun v hv=>
  have h1:=hv.block (t:=395) ⟨_,H.1.blk⟩ (by decide)
  have h2:=hv.block (t:=27) ⟨_,hz⟩ (by decide)
  ⟨(World.cell?_of_block (a:=⟨pb,0,none⟩) h1).trans q0,(World.cell?_of_block (a:=⟨u.heap.size,2,none⟩) h2).trans z2⟩
 have HFL:=ad hfl
 have HROOM:Hid (cs.length+1<=room/\s.length<=maxLen):=ad ⟨by have:=HA.2.2.1;omega,h3⟩
 have hlen255:=HA.2.2.2.2.1
 clear hP h1 h2 hc ht hp hs hmay hv hsz hroom hC hbU hz hfl h3
 unfold aU
 go_enter func281,ntmps281
 go_upto_region 1 with fail
 rw[<-hU]
 clear hU
 go_upto_region 12 with fail
 clear z0 z1 z2 z3 q0
 go_region_held3 (fun v=>v.cell? (ak pb 0)=some (ah sb)/\v.cell? (ak u.heap.size 2)=some (af s))
  (first|(with_reducible exact HS.out _ (TF.refl _ _))|(with_reducible exact HS.out _ (TF.refl _ _).drew)|(with_reducible exact HS.out _ ((TF.refl _ _).drew.trans hf5)))
  (first|(go_at_call 352;refine(sU (H.2.later aA.drew) 4 0 s HROOM.1 HROOM.2).mono ?_;rintro e w5 ⟨rfl,⟨cv5,xs5,hs5,hab5⟩,hf5⟩))
 have hfU:TF iw U w5:=(TF.refl _ _).drew.trans hf5
 have H5:=ad (aD (H.1.tf hfU (by decide)) (aD hs5 (aD hab5 (((TF.refl iw u).later HB.out).trans hfU))))
 have hz5:w5.heap[u.heap.size]?=some (.cells #[ae 4,ae 0,af s,.slice A len c] 27 (0,0)):=(hfU.block (t:=27) ⟨_,HZ.out⟩ (by decide)).trans HZ.out
 obtain⟨z0,z1,z2,z3,-⟩:=aH hz5
 have hlz5:u.heap.size<w5.heap.size:=(ap hz5).1
 clear hs5 hab5 hf5 hfU HZ H HS hlU hlz pf
 have hmk:=yv w5 len (by omega)
 obtain⟨W,hW⟩:∃W,W=w5.alloc (.cells ((List.replicate len 0).flatMap fq).toArray 3):=⟨_,rfl⟩
 have hbW:aE w5 W:=by rw[hW];exact aB
 have HI0:Hid (Dv pb sb vb fb room u bv xs need ys w5.heap.size len p1 args W 0):=ad (by
  refine⟨?_,⟨cv5,xs5,?_,fun b hb=>?_⟩,?_,(A7 H5.2.2.2 fb).step hbW,H5.2.2.2.size⟩
  ·rw[List.take_zero,bW,hp1]
   exact H5.1.later hbW
  ·rw[List.take_zero,bW,hp1]
   exact H5.2.1.later hbW
  ·refine⟨fun e=>?_,.inl (H5.2.2.1 b hb)⟩
   have:=(H5.2.1.abs_ty hb).lt
   omega
  ·rw[List.take_zero,bW,List.nil_append,Nat.sub_zero,hW]
   exact AU w5 _ len H5.2.2.2.size (by omega))
 have HWW:=ad (aD hbW hW)
 have hz6:=(hbW.block _ hlz5).trans hz5
 obtain⟨t0,t1,t2,t3,-⟩:=aH hz6
 have hlz6:u.heap.size<W.heap.size:=Nat.lt_of_lt_of_le hlz5 hbW.size
 obtain⟨ab,hab⟩:∃ab,ab=w5.heap.size:=⟨_,rfl⟩
 rw[<-hW,<-hab]at hmk
 rw[<-hab]at HI0
 clear hbW hz5 hz6
 go_upto_region 13 with fail
 clear hW hab
 go_wp2_with fail
 clear hmk z0 z1 z2 z3 t0 t1 t2 t3 hlz5 hlz6
 go_loopw [72] (fun i wr=>∃(q:Nat),i=ae (q:Nat)/\q<=len/\Hid (Dv pb sb vb fb room u bv xs need ys ab len p1 args wr q)) (fun i _=>len-(intOf i).toNat)
 case atStart=>exact⟨0,rfl,Nat.zero_le _,HI0⟩
 case round=>
  obtain⟨q,rfl,hq,HI⟩:=hrel
  clear HI0
  by_cases hlt:q<len
  ·obtain⟨a,ha⟩:∃a,args[q]?=some a:=⟨_,au (by rw[HA.2.2.2.1];exact hlt)⟩
   obtain⟨y,hy⟩:∃y,xa[q]?=some y:=⟨_,au (by rw[HXS.1];exact hlt)⟩
   obtain⟨b,off,rfl,hb,hcc⟩:=HXS.2.1 q y hy
   have hkT:∀b,aR u 27 b->wr.heap[b]?=u.heap[b]?:=fun b hb=>HI.fr.block b hb.lt (HT0.out b hb)
   have hcell:∀(j:Nat) v,(aJ y)[j]?=some v->wr.cell? (ak b (off+q*4+j))=some v:=fun j v hv=>(World.cell?_of_block (a:=⟨b,off+q*4+j,none⟩) (hkT b hb)).trans (hcc j v hv)
   have y0:=hcell 0 _ rfl
   have y1:=hcell 1 _ rfl
   have y2:=hcell 2 _ rfl
   have y3:=hcell 3 _ rfl
   rw[Nat.add_zero]at y0
   have hbl:b<wr.heap.size:=Nat.lt_of_lt_of_le hb.lt HI.fr.size
   have HT:=ad ((HXS.2.2 q y a hy ha).keep (w':=wr) (S':=aR wr 27) (fun b hb=>hb.keep (hkT b hb)) hkT)
   obtain⟨V,hV⟩:∃V,V=wr.alloc (.cells #[ae y.k,ae y.n,af y.s,.slice y.A y.len y.cap] 27):=⟨_,rfl⟩
   have hbV:aE wr V:=by rw[hV];exact aB
   have hzV:V.heap[wr.heap.size]?=some (.cells #[ae y.k,ae y.n,af y.s,.slice y.A y.len y.cap] 27 (0,0)):=by rw[hV];exact az
   obtain⟨v0,v1,v2,v3,-⟩:=aH hzV
   have hlt1:(q:Int)<(len:Int):=by omega
   have hge:(0:Int)<=(q:Int):=by omega
   have hwq:IntKind.i64.wrap ((q:Int)+1)=(q:Int)+1:=IntWalk.i64_in _ (by omega)
   have HTV:Hid (aI V (aR V 27) y a):=ad (HT.keep (fun b hb=>hb.keep (hbV.block b hb.lt)) fun b hb=>hbV.block b hb.lt)
   have HBV:=ad hbV
   have HAQ:=ad ha
   obtain⟨pq,hpq⟩:∃pq,pq=bW (args.take q) p1:=⟨_,rfl⟩
   have HSN:Hid (bW (args.take (q+1)) p1=(pq.1++[(aV a pq.2).1],(aV a pq.2).2)):=ad (by
    rw[List.take_add_one,ha,hpq]
    exact o7 _ _ _)
   have HPQ:Hid (ub pq.2/\pq.2.cs.length+a.size<=room/\pq.1.length=q/\a.size<=m):=ad (by
    obtain⟨g1,g2,g3⟩:=kv (args.take q) p1 (by
     rw[hp1]
     intro x hx
     have h9:x.2<cs.length:=HFL.out x hx
     show x.2<(cs++[_]).length
     rw[List.length_append]
     omega)
    have h1:=g1.le
    have h2:Tm.sizes (args.take q)+(a.size+Tm.sizes (args.drop (q+1)))=Tm.sizes args:=by
     obtain⟨hl,he⟩:=aq ha
     have:=lQ q args
     rw[List.drop_eq_getElem_cons hl,he,Tm.sizes]at this
     exact this
    have h3:=HA.2.2.1
    have h4:=HA.2.1
    have h5:p1.cs.length=cs.length+1:=by rw[hp1];simp
    rw[<-hpq]at h1 g3
    refine⟨by rw[hpq];exact g1.fr,by omega,by rw[g3,List.length_take,HA.2.2.2.1];omega,by omega⟩)
   have HI2:Hid (eC pb sb vb fb wr need (jD pq.2.fr)/\(∃cv' xs',aL sb room wr cv' bv xs' pq.2.cs ys/\∀b,sJ xs' b->b≠ab/\(sJ xs b\/u.heap.size<=b))/\aS wr u.heap.size 3 1 fq (al ab len len) (pq.1++List.replicate (len-q) 0)):=ad (by
    rw[hpq]
    exact⟨HI.pc,HI.st,HI.row⟩)
   have HFR:=ad (aD HI.fr HI.new)
   clear hcc hkT hcell hy ha hb hzV hbV hpq HI
   go_upto_region 17 with fail
   rw[<-hV]
   clear hV
   obtain⟨cv2,xs2,HS2⟩:∃cv2 xs2,Hid (aL sb room V cv2 bv xs2 pq.2.cs ys/\∀b,sJ xs2 b->b≠ab/\(sJ xs b\/u.heap.size<=b)):=by
    obtain⟨cv2,xs2,g1,g2⟩:=HI2.2.1
    exact⟨cv2,xs2,ad ⟨g1.later HBV.out,g2⟩⟩
   have HCL:Hid (Calls prog 281 #[ah pb,aU y] V (ij pb sb vb fb room V bv xs2 need pq.2.cs pq.2.fr ys a)):=ad (HM.out a V y need cv2 bv xs2 pq.2.cs pq.2.fr ys HPQ.2.2.2 HTV.out (HI2.1.later HBV.out) HS2.1 HPQ.1 (HA.1 q a HAQ.out).1 (HA.1 q a HAQ.out).2 HPQ.2.1)
   go_wp2_with fail
   refine HCL.mono ?_
   rintro e W5 ⟨rfl,hpc5,⟨cv5,xs5,hs5,hab5⟩,hf5⟩
   have hrV:=HI2.2.2.later HBV.out
   have habV:aR V 3 ab:=hrV.ty rfl
   have habn:¬(ab=fb\/fc iw V ab):=fun e=>by
    rcases e with e|⟨-,t',e1,e2⟩
    ·exact(HI2.1.later HBV.out).fresh.map.ne habV e.symm
    ·have:=habV.same e2
     subst this
     exact absurd e1 (by decide)
   have hk5:=hf5.block ab habV.lt habn
   have hr5:aS W5 u.heap.size 3 1 fq (al ab len len) (pq.1++List.replicate (len-q) 0):=hrV.keep fun k hk=>by
    have e:ab=k:=Option.some.inj hk
    rw[<-e]
    exact hk5
   have hq0:(pq.1++List.replicate (len-q) 0)[q]?=some 0:=by
    rw[List.getElem?_append_right (by rw[HPQ.2.2.1];exact aC),HPQ.2.2.1,Nat.sub_self,List.getElem?_replicate,if_pos (by omega)]
   obtain⟨g9,cap9,e9,-,-,-,hc9⟩:=hr5.cells dw (fun e=>by rw[e]at hq0;cases hq0)
   injection e9 with e9 q1 q2
   clear q1 q2
   injection e9 with e9
   injection e9 with e9
   subst e9
   obtain⟨w0,wf0⟩:=hc9 q 0 hq0 0 _ rfl
   rw[Nat.mul_one,Nat.add_zero]at w0 wf0
   have hlab:ab<W5.heap.size:=Nat.lt_of_lt_of_le habV.lt hf5.size
   obtain⟨r,hr⟩:∃r,r=(aV a pq.2).1:=⟨_,rfl⟩
   have HNX:Hid (Dv pb sb vb fb room u bv xs need ys ab len p1 args (W5.setCell (ak ab q) (ae (r:Nat))) (q+1)):=ad (by
    have hty5:aR W5 3 ab:=habV.keep hk5
    refine⟨?_,⟨cv5,xs5,?_,fun b hb=>?_⟩,?_,?_,HFR.2⟩
    ·rw[HSN.out]
     exact hpc5.setN hty5 (by decide) _
    ·rw[HSN.out]
     refine hs5.keepA (fun t b ht hb=>av _ _ _ _ (hb.ne hty5 fun e=>by subst e;exact absurd ht (by decide))) fun b hb _=>av _ _ _ _ ?_
     rcases hab5 b hb with e|e
     ·exact(HS2.2 b e).1
     ·have:=habV.lt
      simp only
      omega
    ·rcases hab5 b hb with e|e
     ·exact HS2.2 b e
     ·have h1:=habV.lt
      have h2:=HFR.1.size
      have h3:=HBV.size
      exact⟨by omega,.inr (by omega)⟩
    ·have h1:=aS.put dw hr5 (i:=q) (j:=0) (x:=0) (y:=r) (u:=ae (r:Nat)) hq0 (by omega) rfl
     rw[Nat.mul_one,Nat.add_zero]at h1
     rw[HSN.out]
     have h2:(pq.1++List.replicate (len-q) 0).set q r=pq.1++[(aV a pq.2).1]++List.replicate (len-(q+1)) 0:=by
      rw[List.set_append_right _ _ (by rw[HPQ.2.2.1];exact aC),HPQ.2.2.1,Nat.sub_self,show len-q=(len-(q+1))+1 by omega,List.replicate_succ,List.set_cons_zero,hr,List.append_assoc]
      rfl
     rw[h2]at h1
     exact h1
    ·exact(zE (HFR.1.step HBV.out) hf5).setCell (p:=(ak ab q)) (.inr HFR.2) _)
   rw[<-hr]
   clear hpc5 hs5 hab5 hf5 hrV habV habn hk5 hr5 hq0 hc9 hr y0 y1 y2 y3 v0 v1 v2 v3 hbl
   go_wp2_with fail
   go_roundw
   case rel=>exact⟨q+1,rfl,by omega,HNX⟩
   case measure=>
    simp only[intOf]
    omega
  ·obtain rfl:q=len:=by omega
   have hng:¬(q:Int)<(q:Int):=by omega
   obtain⟨pq,hpq⟩:∃pq,pq=bW args p1:=⟨_,rfl⟩
   have htk:args.take q=args:=by rw[List.take_of_length_le (by rw[HA.2.2.2.1];exact aC)]
   obtain⟨g1,g2,g3⟩:=kv args p1 (by
    rw[hp1]
    intro x hx
    have h9:x.2<cs.length:=HFL.out x hx
    show x.2<(cs++[_]).length
    rw[List.length_append]
    omega)
   rw[<-hpq]at g1 g2 g3
   obtain⟨hpc,⟨cv6,xs6,hs6,hab6⟩,hrow,hfr,hnew⟩:=HI.out
   rw[htk,<-hpq]at hpc hs6 hrow
   rw[Nat.sub_self,List.replicate_zero,List.append_nil]at hrow
   have hl1:p1.cs.length=cs.length+1:=by rw[hp1];simp
   have hat:pq.2.cs[cs.length]?=some ⟨4,0,s,[],none⟩:=by
    rw[g1.old cs.length (by omega),hp1]
    simp
   obtain⟨g,cap,x6,e6,-,hgl,hx6,ho6,gf,-,-,-,d3,-,-⟩:=hs6.at hat
   subst e6
   obtain⟨c0,c1,-,cf⟩:=hs6.cells
   obtain⟨r0,-,-,-,-⟩:=aH hpc.blk
   have hgt:=hs6.row.ty (g:=g) rfl
   have hgge:=hs6.rowge (g:=g) rfl
   have hne:pq.1≠[]:=fun e=>by
    have h1:=HA.2.2.2.2.2
    have h2:=HA.2.2.2.1
    rw[e,List.length_nil]at g3
    omega
   have hst:=hs6.args' (cp:=q) (m:=q) hx6 hat (by rw[g3,HA.2.2.2.1]) (bn.row hrow hne) g2 (by rw[g3,HA.2.2.2.1];exact hlen255)
   have HQ:Hid (P (.returned (ae (cs.length:Nat))) (wr.setCell (ak g (cs.length*6+3)) (al ab q q))):=ad (by
    have e:aV (.mk 4 0 s args) ⟨cs,fr⟩=(cs.length,⟨pq.2.cs.set cs.length ⟨4,0,s,pq.1,none⟩,pq.2.fr⟩):=by
     rw[aV,if_neg (by decide),if_pos rfl,hpq,hp1]
    rw[HP.out]
    unfold ij
    rw[e]
    refine⟨rfl,hpc.setN hgt (by decide) _,⟨_,_,hst,fun b hb=>?_⟩,hfr.setCell (p:=(ak g (cs.length*6+3))) ?_ _⟩
    ·rcases B1 hb with e|⟨off,e⟩
     ·exact(hab6 b e).2
     ·injection e with e
      injection e with e
      exact .inr (by omega)
    ·by_cases hgu:u.heap.size<=g
     ·exact .inr hgu
     ·by_cases hgfb:g=fb
      ·exact .inl (.inl hgfb)
      ·refine .inl (Classical.byContradiction fun hn=>?_)
       have h1:=hfr.block g (by omega) hn
       obtain⟨cs9,h2⟩:=hgt
       exact hn (.inr ⟨hgge,378,by decide,cs9,h1▸h2⟩))
   have hc0:(0:Int)<=(cs.length:Int):=by omega
   have hc1:(cs.length:Int)<(pq.2.cs.length:Int):=by have:=g1.ge;omega
   have hlp:=hpc.lt
   have hls:=hs6.lt
   clear hlt hpq htk g1 g2 g3 hpc hs6 hab6 hrow hfr hnew hl1 hat hx6 ho6 hgt hgge hne hst
   go_wp2_with fail
   exact HQ.out
theorem uN (pb sb:Nat) (vb:Option Nat) (fb room:Nat):∀n,E0 pb sb vb fb room n
 |0=>fun t u x need cv bv xs cs fr ys hs _ _ _ _ _ _ _=>by
  obtain⟨k,n,s,l⟩:=t
  simp only[Tm.size]at hs
  omega
 |n+1=>fun t u x need cv bv xs cs fr ys hsz hx hp hs hf hm hv hr=>by
  by_cases hk4:x.k=4
  ·exact zC n (uN pb sb vb fb room n) u x t hsz hk4 hx hp hs hf hm hv hr
  ·cases hx with
   |mk _ args xa h1 h2 h3 hc ht=>
    obtain⟨m1,m2,-⟩:=eX hm
    obtain rfl:=m2 hk4
    have hr1:cs.length+1<=room:=by simpa[Tm.size,Tm.sizes]using hr
    by_cases hk:x.k=1
    ·obtain⟨hs0,-⟩:=m1 hk
     rw[hk,hs0]
     refine CQ u x hk (hv _ ?_) hp hs hr1
     rw[dP,if_pos hk]
     exact List.mem_append_left _ (List.mem_singleton.2 rfl)
    ·exact zM u x hk hk4 h3 hp hs hr1
end
end
section
open Go.RowKit Go.Maps
def wS (es:List (dh×dv)) (n:List UInt8):Bool:=(aP es (1,n)).isSome||((aP es (2,n)).isSome||(aP es (3,n)).isSome)
theorem AP (w:World) (bt bm:Nat) (es:List (dh×dv)) (hT:cm w bt bm es) (n:List UInt8) (hn:gP n):
 Calls prog 308 #[ah bt,af n] w fun e w'=>e=.returned (.bool (wS es n))/\aE w w':=by
 unfold wS
 cases h1:(aP es (1,n)).isSome
 ·cases h2:(aP es (2,n)).isSome
  ·go_enter func308,ntmps308
   go_wp2_with fail
   refine(je _ bt bm es hT 1 n (hn.k 1 (by omega))).mono ?_
   rintro e w1 ⟨rfl,hb1⟩
   go_wp2_with fail
   refine(je _ bt bm es (hT.later hb1) 2 n (hn.k 2 (by omega))).mono ?_
   rintro e w2 ⟨rfl,hb2⟩
   go_wp2_with fail
   refine(je _ bt bm es ((hT.later hb1).later hb2) 3 n (hn.k 3 (by omega))).mono ?_
   rintro e w3 ⟨rfl,hb3⟩
   go_wp2_with fail
   go_ret
   exact⟨rfl,(hb1.trans (hb2.mono hb1.size)).trans (hb3.mono (Nat.le_trans hb1.size hb2.size))⟩
  ·go_enter func308,ntmps308
   go_wp2_with fail
   refine(je _ bt bm es hT 1 n (hn.k 1 (by omega))).mono ?_
   rintro e w1 ⟨rfl,hb1⟩
   go_wp2_with fail
   refine(je _ bt bm es (hT.later hb1) 2 n (hn.k 2 (by omega))).mono ?_
   rintro e w2 ⟨rfl,hb2⟩
   go_wp2_with fail
   go_ret
   exact⟨rfl,hb1.trans (hb2.mono hb1.size)⟩
 ·go_enter func308,ntmps308
  go_wp2_with fail
  refine(je _ bt bm es hT 1 n (hn.k 1 (by omega))).mono ?_
  rintro e w1 ⟨rfl,hb1⟩
  go_wp2_with fail
  go_ret
  exact⟨rfl,hb1⟩
end
end Go.Proofs.YtigeofkllldilaaGreatDoor
namespace Go.Proofs
open Go.Shelf
def Tryz.lays173_ren:Go.Shelf.Ren:=⟨fun|173=>136|246=>230|283=>300|284=>301|285=>302|286=>303|129=>212|317=>358|318=>359|319=>360|320=>361|337=>384|338=>385|n=>n,fun|2=>2|3=>3|9=>9|4=>4|171=>414|0=>0|53=>301|37=>76|5=>5|173=>416|212=>483|51=>226|20=>20|213=>484|46=>196|232=>533|233=>534|n=>n,fun|17=>4|18=>5|19=>6|n=>n⟩
theorem Tryz.lays173:Go.Proofs.LaysM.n173 prog Tryz.lays173_ren:= {
 mixed:=by kernel_rfl
 f129:=func212.trans (congrArg some (by kernel_rfl))
 f173:=func136.trans (congrArg some (by kernel_rfl))
 f246:=func230.trans (congrArg some (by kernel_rfl))
 f283:=func300.trans (congrArg some (by kernel_rfl))
 f284:=func301.trans (congrArg some (by kernel_rfl))
 f285:=func302.trans (congrArg some (by kernel_rfl))
 f286:=func303.trans (congrArg some (by kernel_rfl))
 f317:=func358.trans (congrArg some (by kernel_rfl))
 f318:=func359.trans (congrArg some (by kernel_rfl))
 f319:=func360.trans (congrArg some (by kernel_rfl))
 f320:=func361.trans (congrArg some (by kernel_rfl))
 f337:=func384.trans (congrArg some (by kernel_rfl))
 f338:=func385.trans (congrArg some (by kernel_rfl))
 t0:=underlying0
 a0:=Tryz.isAgg0
 z0:=Tryz.sizeOf0
 v0:=Tryz.zeroValue0
 t2:=underlying2
 a2:=Tryz.isAgg2
 z2:=Tryz.sizeOf2
 v2:=Tryz.zeroValue2
 t3:=underlying3
 a3:=Tryz.isAgg3
 z3:=Tryz.sizeOf3
 v3:=Tryz.zeroValue3
 t4:=underlying4
 a4:=Tryz.isAgg4
 z4:=Tryz.sizeOf4
 v4:=Tryz.zeroValue4
 t5:=underlying5
 a5:=Tryz.isAgg5
 z5:=Tryz.sizeOf5
 v5:=Tryz.zeroValue5
 t9:=underlying9
 a9:=Tryz.isAgg9
 z9:=Tryz.sizeOf9
 v9:=Tryz.zeroValue9
 t20:=underlying20
 a20:=Tryz.isAgg20
 z20:=Tryz.sizeOf20
 v20:=Tryz.zeroValue20
 t37:=underlying76
 a37:=Tryz.isAgg76
 z37:=Tryz.sizeOf76
 v37:=Tryz.zeroValue76
 t46:=underlying196
 a46:=Tryz.isAgg196
 z46:=Tryz.sizeOf196
 v46:=Tryz.zeroValue196
 t51:=underlying226
 a51:=Tryz.isAgg226
 z51:=Tryz.sizeOf226
 v51:=Tryz.zeroValue226
 t53:=underlying301
 a53:=Tryz.isAgg301
 z53:=Tryz.sizeOf301
 v53:=Tryz.zeroValue301
 t171:=underlying414
 a171:=Tryz.isAgg414
 z171:=Tryz.sizeOf414
 v171:=Tryz.zeroValue414
 t173:=underlying416
 a173:=Tryz.isAgg416
 z173:=Tryz.sizeOf416
 v173:=Tryz.zeroValue416
 t212:=underlying483
 a212:=Tryz.isAgg483
 z212:=Tryz.sizeOf483
 v212:=Tryz.zeroValue483
 t213:=underlying484
 a213:=Tryz.isAgg484
 z213:=Tryz.sizeOf484
 t232:=underlying533
 a232:=Tryz.isAgg533
 z232:=Tryz.sizeOf533
 v232:=Tryz.zeroValue533
 t233:=underlying534
 a233:=Tryz.isAgg534
 z233:=Tryz.sizeOf534
 v233:=Tryz.zeroValue534
 g17:=by kernel_rfl
 g18:=by kernel_rfl
 g19:=by kernel_rfl
 i0:=by kernel_rfl
 i2:=by kernel_rfl
 i3:=by kernel_rfl
 i4:=by kernel_rfl
 i5:=by kernel_rfl
 i9:=by kernel_rfl
 i20:=by kernel_rfl
 i37:=by kernel_rfl
 i46:=by kernel_rfl
 i51:=by kernel_rfl
 i53:=by kernel_rfl
 i171:=by kernel_rfl
 i173:=by kernel_rfl
 i212:=by kernel_rfl
 i232:=by kernel_rfl
 i233:=by kernel_rfl
 m17:=by kernel_rfl
 m18:=by kernel_rfl
 m19:=by kernel_rfl}
open Go.RowKit in
theorem Tryz.strconv_FormatInt_10 (n:Int) (h0:-9223372036854775808<=n) (h1:n<=9223372036854775807) (w:World) (htab:Lib.TabIs prog w "internal/strconv.uint64pow10" .u64 Lib.pow10Tab):
 Calls prog 136 #[ae n,ae 10] w fun e w'=>e=.returned (af (Lib.itoa n))/\∃k os,w'=Sort.grow (w.drewN k) os:=Any.strconv_FormatInt_10 Tryz.lays173 n h0 h1 w htab
end Go.Proofs
namespace Go.Proofs.YtigeofkllldilaaGreatDoor
section
open Go.RowKit
def fk (w:World):Prop:=Lib.TabIs prog w "internal/strconv.uint64pow10" .u64 Lib.pow10Tab
theorem fk.keep {w w':World} (h:fk w) (hb:w'.heap[4]?=w.heap[4]?):fk w':=by
 unfold fk Lib.TabIs World.var? at h⊢
 have hg:prog.globalNamed "internal/strconv.uint64pow10"=some 4:=by kernel_rfl
 rw[hg]at h⊢
 simp only[Option.bind_some]at h⊢
 rw[hb]
 exact h
theorem fk.lt {w:World} (h:fk w):4<w.heap.size:=by
 unfold fk Lib.TabIs World.var? at h
 have hg:prog.globalNamed "internal/strconv.uint64pow10"=some 4:=by kernel_rfl
 rw[hg]at h
 simp only[Option.bind_some]at h
 rcases Nat.lt_or_ge 4 w.heap.size with hlt|hge
 ·exact hlt
 ·rw[Array.getElem?_eq_none hge]at h
  cases h
theorem fk.later {w w':World} (h:fk w) (hb:aE w w'):fk w':=h.keep (hb.block _ h.lt)
theorem tU (w:World) (k:Nat) (os:Array Obj):aE w (Sort.grow (w.drewN k) os):=by
 refine⟨rfl,rfl,rfl,?_,fun i hi=>?_⟩
 ·show w.heap.size<=(w.heap++os).size
  rw[Array.size_append]
  omega
 ·show(w.heap++os)[i]?=w.heap[i]?
  rw[Array.getElem?_append_left hi]
theorem oh (w:World) (hP:fk w) (n:Int) (h0:-9223372036854775808<=n) (h1:n<=9223372036854775807):
 Calls prog 64 #[ae n] w fun e w'=>e=.returned (af (Lib.itoa n))/\aE w w':=by
 go_enter func64,ntmps64
 go_wp2_with fail
 refine(Tryz.strconv_FormatInt_10 n h0 h1 w hP).mono ?_
 rintro e w1 ⟨rfl,k,os,rfl⟩
 have hb:=tU w k os
 generalize Sort.grow (w.drewN k) os=w1 at hb⊢
 go_wp2_with fail
 go_ret
 exact⟨rfl,hb⟩
end
end Go.Proofs.YtigeofkllldilaaGreatDoor
