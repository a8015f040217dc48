import Derived.Test.YtigeofkllldilaaGreatDoorJM09
import Derived.Test.YtigeofkllldilaaGreatDoorJM33
import Derived.Laws.EntriesVeiled
set_option maxHeartbeats 32000000
set_option maxRecDepth 100000
set_option linter.unusedSectionVars false
open Go.Proofs.Tryz
namespace Go.Proofs.YtigeofkllldilaaGreatDoor
section
open Go.RowKit Go.Maps
variable[Base]
section
variable {sb room:Nat} {u u':World} {cv bv:Value} {xs:List ec} {cs:List Sc} {ys:List (Nat×Int)}
omit[Base]in
theorem ic.lt {i:Nat} {t:Tm} (h:ic cs i t):i<cs.length:=by
 cases h with
 |var hr _ _=>exact hr.lt
 |part hr _ _ _ _=>exact hr.lt
theorem pY (hs:aL sb room u cv bv xs cs ys) (hv:cj cs) {i:Nat} {t:Tm} (ht:ic cs i t) (hsz:t.size<=2000):
 Calls prog 173 #[ah sb,ae (i:Nat)] u fun e u'=>∃y:TV,e=.returned (.tuple #[aU y,ae 0])/\aI u' (fL u.heap.size u') y t/\aE u u':=by
 refine aa fun P hP=>?_
 have HP:=ad hP
 have hd:decide (0<=(i:Int)/\(i:Int)<(cs.length:Int))=true:=decide_eq_true ⟨by omega,by have:=ht.lt;omega⟩
 obtain⟨U,hU⟩:∃U,U=u.alloc (.cells #[ae 0,ae 0,ai,aj] 27):=⟨_,rfl⟩
 have hbU:aE u U:=by rw[hU];exact aB
 have hz:U.heap[u.heap.size]?=some (.cells #[ae 0,ae 0,ai,aj] 27 (0,0)):=by rw[hU];exact az
 obtain⟨V,hV⟩:∃V,V=U.alloc (.cells #[ah sb,ae 0,.map none] 385):=⟨_,rfl⟩
 have hbV:aE u V:=by rw[hV];exact hbU.alloc hbU.size _
 have hg:jR U.heap.size sb V 0:=by rw[hV];exact az
 obtain⟨gb,hgb⟩:∃gb,gb=U.heap.size:=⟨_,rfl⟩
 obtain⟨rk,hrk⟩:∃rk,rk=u.heap.size:=⟨_,rfl⟩
 have hrg:rk<gb:=by rw[hrk,hgb];exact(ap hz).1
 have HV:Hid (aL sb room V cv bv xs cs ys/\jR gb sb V 0/\V.heap[rk]?=some (.cells #[ae 0,ae 0,ai,aj] 27 (0,0))/\u.heap.size<=rk/\u.heap.size<=gb):=ad ⟨hs.later hbV,by rw[hgb];exact hg,by
  rw[hrk,hV,aw _ _ _ (ap hz).1]
  exact hz,by rw[hrk];exact aC,by rw[hgb];exact hbU.size⟩
 have HU:=ad (hs.later hbU)
 have HB:=ad hbV
 have HT:=ad (aD hv (aD ht hsz))
 have HD:=ad hd
 clear hP hs hv ht hsz hd hbU hz hbV hg
 go_enter func173,ntmps173
 go_upto_region 1 with fail
 rw[<-hU,<-hrk]
 clear hU hrk
 go_wp2_with fail
 refine(gL HU.out _).mono ?_
 rintro e w1 ⟨rfl,rfl⟩
 rw[HD.out]
 go_upto_region 6 with fail
 rw[<-hV,<-hgb]
 clear hV hgb
 go_wp2_with fail
 refine(uA gb sb room t.size t V i 1 0 cv bv xs cs ys aC HV.1 HV.2.1 HT.1 HT.2.1 (by have:=HT.2.2;omega) (by have:=HT.2.2;omega)).mono ?_
 rintro e W ⟨y,rfl,ht5,hg5,hf5⟩
 unfold aU
 have hrw:=(hf5.block rk (ap HV.2.2.1).1 (fun e=>by omega)).trans HV.2.2.1
 obtain⟨W2,hW2⟩:∃W2,W2=W.alloc (.cells #[ae y.k,ae y.n,af y.s,.slice y.A y.len y.cap] 27):=⟨_,rfl⟩
 have hb2:aE W W2:=by rw[hW2];exact aB
 have hr2:=(hb2.block _ (ap hrw).1).trans hrw
 obtain⟨xb,hxb⟩:∃xb,xb=W.heap.size:=⟨_,rfl⟩
 have hx2:W2.heap[xb]?=some (.cells #[ae y.k,ae y.n,af y.s,.slice y.A y.len y.cap] 27 (0,0)):=by rw[hW2,hxb];exact az
 obtain⟨r0,r1,r2,r3,rf⟩:=aH hr2
 obtain⟨x0,x1,x2,x3,xf⟩:=aH hx2
 have hlr:rk<W2.heap.size:=(ap hr2).1
 have hlx:xb<W2.heap.size:=(ap hx2).1
 have hrx:rk≠xb:=by rw[hxb];have:=(ap hrw).1;omega
 have hxr:xb≠rk:=Ne.symm hrx
 have HQ:Hid (P (.returned (.tuple #[aU y,ae 0])) ((((W2.setCell (ak rk 0) (ae y.k)).setCell (ak rk 1) (ae y.n)).setCell (ak rk 2) (af y.s)).setCell (ak rk 3) (.slice y.A y.len y.cap))):=ad (by
  have hVs:=HB.size
  have hk:∀b,fL V.heap.size W b->((((W2.setCell (ak rk 0) (ae y.k)).setCell (ak rk 1) (ae y.n)).setCell (ak rk 2) (af y.s)).setCell (ak rk 3) (.slice y.A y.len y.cap)).heap[b]?=W.heap[b]?:=fun b hb=>by
   rw[aM _ _ _ _ (by have:=hb.1;have:=(ap HV.2.2.1).1;omega)]
   exact hb2.block b hb.2.lt
  rw[HP.out]
  refine⟨y,rfl,ht5.keep (fun b hb=>⟨by have:=hb.1;omega,hb.2.keep (hk b hb)⟩) hk,?_⟩
  have h1:aE u W2:=HB.trans ((hf5.below HB.size fun k hk e=>by have:=HV.2.2.2.2;omega).trans (hb2.mono (Nat.le_trans HB.size hf5.size)))
  have h2:=HV.2.2.2.1
  exact(((h1.setCell (p:=(ak rk 0)) h2 _).setCell (p:=(ak rk 1)) h2 _).setCell (p:=(ak rk 2)) h2 _).setCell (p:=(ak rk 3)) h2 _)
 obtain⟨WF,hWF⟩:∃WF,WF=((((W2.setCell (ak rk 0) (ae y.k)).setCell (ak rk 1) (ae y.n)).setCell (ak rk 2) (af y.s)).setCell (ak rk 3) (.slice y.A y.len y.cap)):=⟨_,rfl⟩
 have hf:=bc hr2 rfl (ae y.k) (ae y.n) (af y.s) (.slice y.A y.len y.cap)
 rw[<-hWF]at HQ hf
 have HWF:=ad hWF
 have HF4:=ad hf
 clear hWF hf ht5 hg5 hf5 hrw hb2 hr2 hx2
 go_upto_region 7 with fail
 rw[<-hW2,<-hxb]
 clear hW2 hxb
 go_wp2_with fail
 rw[<-HWF.out]
 obtain⟨f0,f1,f2,f3,-⟩:=aH HF4.out
 exact bodyPost_ret (v:=.tuple #[aU y,ae 0]) (by simp[results,results173,go_sem,f0,f1,f2,f3,aU]) rfl HQ.out
end
end
section
open Go.Maps
abbrev cR (s:List UInt8) (x y:Tm):Tm:=.mk 4 0 s [x,y]
abbrev cH (t:Tm):Nat×PS:=aV t ⟨[],[]⟩
structure Fq (s:List UInt8) (x y:Tm) (a b:Nat):Prop where
 root:(cH (cR s x y)).1=0
 cell:(cH (cR s x y)).2.cs[0]?=some ⟨4,0,s,[a,b],none⟩
 shape:∃T,Dq (cH (cR s x y)).2.cs T/\T a=x/\T b=y
 free:∀(i:Nat) c,(cH (cR s x y)).2.cs[i]?=some c->c.to=none/\∀q∈c.args,q<(cH (cR s x y)).2.cs.length
 la:a<(cH (cR s x y)).2.cs.length
 lb:b<(cH (cR s x y)).2.cs.length
 got:∃f:Int->Int,(∀n,0<=f n)/\ic (cH (cR s x y)).2.cs a (fd f x)/\ic (cH (cR s x y)).2.cs b (fd f y)/\(∀p∈dP x,∀q∈dP y,f p=f q->p=q)/\∀n,f n<=(cH (cR s x y)).2.cs.length
 vnil:cj (cH (cR s x y)).2.cs
mutual
theorem mI:∀(t:Tm) (p:PS),t.may=true->cj p.cs->cj (aV t p).2.cs
 | .mk k n s l,p,hm,h=>by
  have app:∀c:Sc,(c.k=1->c.args=[])->cj (p.cs++[c]):=fun c hc i d hd hk=>by
   by_cases hi:i<p.cs.length
   ·rw[List.getElem?_append_left hi]at hd
    exact h i d hd hk
   ·rw[List.getElem?_append_right (by omega)]at hd
    have hz:i-p.cs.length=0:=by have:=(aq hd).1;simpa using this
    rw[hz]at hd
    injection hd with hd
    subst hd
    exact hc hk
  rw[aV]
  by_cases h1:k=1
  ·rw[if_pos h1]
   cases aP p.fr n with
   |some a=>exact h
   |none=>exact app _ fun _=>rfl
  ·rw[if_neg h1]
   by_cases h4:k=4
   ·rw[if_pos h4]
    have hl:=qz l ⟨p.cs++[⟨4,0,s,[],none⟩],p.fr⟩ (eY hm) (app _ fun e=>by cases e)
    intro i d hd hk
    by_cases hi:i=p.cs.length
    ·subst hi
     by_cases hlt:p.cs.length<(bW l ⟨p.cs++[⟨4,0,s,[],none⟩],p.fr⟩).2.cs.length
     ·rw[List.getElem?_set_self hlt]at hd
      injection hd with hd
      subst hd
      cases hk
     ·rw[List.getElem?_eq_none (by rw[List.length_set];omega)]at hd
      cases hd
    ·rw[List.getElem?_set_ne (Ne.symm hi)]at hd
     exact hl i d hd hk
   ·rw[if_neg h4]
    exact app _ fun e=>absurd e h1
theorem qz:∀(l:List Tm) (p:PS),(∀t∈l,t.may=true)->cj p.cs->cj (bW l p).2.cs
 |[],p,_,h=>by rw[bW];exact h
 |t::r,p,hm,h=>by
  rw[bW]
  exact qz r _ (fun x hx=>hm x (List.mem_cons_of_mem _ hx)) (mI t p (hm t (List.mem_cons_self ..)) h)
end
theorem Ar {p:Int} :∀ {l:List Tm},p∈gm l->∃t∈l,p∈dP t
 |[],h=>by simp[gm]at h
 |t::r,h=>by
  rw[gm]at h
  rcases List.mem_append.1 h with h|h
  ·exact⟨t,List.mem_cons_self ..,h⟩
  ·obtain⟨t',h1,h2⟩:=Ar h
   exact⟨t',List.mem_cons_of_mem _ h1,h2⟩
mutual
theorem nM {cs:List Sc} {T:Nat->Tm} (hT:∀(i:Nat) c,cs[i]?=some c->c.k≠1->T i=.mk c.k c.n c.s (c.args.map T)) (hv:∀(i:Nat) c,cs[i]?=some c->c.k=1->∃n,T i=.mk 1 n [] []) (h0:∀(i:Nat) c,cs[i]?=some c->∀a∈c.args,a<cs.length):
 ∀(t:Tm) (i:Nat),i<cs.length->T i=t->∀p∈dP t,∃(j:Nat) (c:Sc),cs[j]?=some c/\c.k=1/\T j=.mk 1 p [] []
 | .mk k n s l,i,hi,he,p,hp=>by
  have hc:=au hi
  generalize cs[i]=c at hc
  by_cases hk:c.k=1
  ·obtain⟨m,e1⟩:=hv i c hc hk
   have e2:=e1
   rw[he]at e1
   injection e1 with q1 q2 q3 q4
   subst q1 q2 q3 q4
   simp only[dP,gm,if_true,List.append_nil,List.mem_singleton]at hp
   subst hp
   exact⟨i,c,hc,hk,e2⟩
  ·have e1:=hT i c hc hk
   rw[he]at e1
   injection e1 with q1 q2 q3 q4
   subst q1 q2 q3
   rw[dP,if_neg hk,List.nil_append]at hp
   obtain⟨t,h1,h2⟩:=Ar hp
   have h1':=h1
   rw[q4]at h1'
   obtain⟨a,h3,h4⟩:=List.mem_map.1 h1'
   exact o4 hT hv h0 l t h1 a (h0 i c hc a h3) h4 p h2
theorem o4 {cs:List Sc} {T:Nat->Tm} (hT:∀(i:Nat) c,cs[i]?=some c->c.k≠1->T i=.mk c.k c.n c.s (c.args.map T)) (hv:∀(i:Nat) c,cs[i]?=some c->c.k=1->∃n,T i=.mk 1 n [] []) (h0:∀(i:Nat) c,cs[i]?=some c->∀a∈c.args,a<cs.length):
 ∀(l:List Tm) (t:Tm),t∈l->∀(i:Nat),i<cs.length->T i=t->∀p∈dP t,∃(j:Nat) (c:Sc),cs[j]?=some c/\c.k=1/\T j=.mk 1 p [] []
 |[],t,ht=>by cases ht
 |x::r,t,ht=>fun i hi he p hp=>by
  have hx:=nM hT hv h0 x
  have hr:=o4 hT hv h0 r
  rcases List.mem_cons.1 ht with e|ht
  ·subst e
   exact hx i hi he p hp
  ·exact hr t ht i hi he p hp
end
theorem put2 (s:List UInt8) (x y:Tm) (hm:(cR s x y).may=true):∃a b,Fq s x y a b:=by
 obtain⟨T,hP,hF,h1,h2⟩:=jX (cR s x y) ⟨[],[]⟩ (fun _=>.mk 0 0 [] []) ⟨fun x hx=>(by cases hx),fun x hx=>(by cases hx)⟩ hm
 obtain⟨T2,hS,h3,-,h5⟩:=xw (cR s x y) hm
 have hr:(cH (cR s x y)).1=0:=by
  unfold cH cR
  rw[aV,if_neg (by decide),if_pos rfl]
  rfl
 have hcell:(cH (cR s x y)).2.cs[0]?=some ⟨4,0,s,[(aV x ⟨[⟨4,0,s,[],none⟩],[]⟩).1,(aV y (aV x ⟨[⟨4,0,s,[],none⟩],[]⟩).2).1],none⟩:=by
  have hl:0<(cH (cR s x y)).2.cs.length:=by rw[<-hr];exact h1
  revert hl
  unfold cH cR
  rw[aV,if_neg (by decide),if_pos rfl]
  simp only[List.length_nil,List.nil_append,List.length_set]
  intro hl
  rw[List.getElem?_set_self hl]
  rw[bW,bW,bW]
 generalize (aV x ⟨[⟨4,0,s,[],none⟩],[]⟩).1=a at hcell
 generalize (aV y (aV x ⟨[⟨4,0,s,[],none⟩],[]⟩).2).1=b at hcell
 have hfree:=h5
 have hab:=(hfree 0 _ hcell).2
 have e2:=hS.comp 0 _ hcell (show(4:Int)≠1 by decide)
 have h3':T2 0=cR s x y:=by rw[<-h3];exact congrArg T2 hr.symm
 rw[h3']at e2
 injection e2 with _ _ _ e2
 simp only[List.map_cons,List.map_nil,List.cons.injEq,and_true]at e2
 refine⟨a,b,hr,hcell,⟨T2,hS,e2.1.symm,e2.2.symm⟩,hfree,hab a (by simp),hab b (by simp),?_,mI _ _ hm fun i c hc=>by simp at hc⟩
 have e1:=(hP.new 0 _ (Nat.zero_le _) hcell).2.2.2 (show(4:Int)≠1 by decide)
 have h2':T 0=cR s x y:=by rw[<-h2];exact congrArg T hr.symm
 rw[h2']at e1
 injection e1 with _ _ _ e1
 simp only[List.map_cons,List.map_nil,List.cons.injEq,and_true]at e1
 have hT:∀(i:Nat) c,(cH (cR s x y)).2.cs[i]?=some c->c.k≠1->T i=.mk c.k c.n c.s (c.args.map T):=fun i c hc hk=>(hP.new i c (Nat.zero_le _) hc).2.2.2 hk
 have hv:∀(i:Nat) c,(cH (cR s x y)).2.cs[i]?=some c->c.k=1->∃n,T i=.mk 1 n [] []/\gD (cH (cR s x y)).2.fr n=i:=fun i c hc hk=>by
  obtain⟨n,hn⟩:=(hP.new i c (Nat.zero_le _) hc).2.2.1 hk
  refine⟨n,(hF.at' _ hn).2,?_⟩
  unfold gD
  cases hg:aP (cH (cR s x y)).2.fr n with
  |none=>exact absurd rfl (dr hg _ hn)
  |some j=>
   have:=hF.one _ (dA hg) _ hn rfl
   simp only at this
   rw[this]
   rfl
 refine⟨gD (cH (cR s x y)).2.fr,fun n=>by unfold gD;omega,nO hT hv hfree x a (hab a (by simp)) e1.1.symm,nO hT hv hfree y b (hab b (by simp)) e1.2.symm,fun p hp q hq e=>?_,fun n=>?_⟩
 rotate_left
 ·unfold gD
  cases hg:aP (cH (cR s x y)).2.fr n with
  |none=>simp
  |some j=>
   have:=(hF.at' _ (dA hg)).1
   simp only at this
   show((j:Nat):Int)<=(((aV (cR s x y) ⟨[],[]⟩).2.cs.length:Nat):Int)
   omega
 have hv':∀(i:Nat) c,(cH (cR s x y)).2.cs[i]?=some c->c.k=1->∃n,T i=.mk 1 n [] []:=fun i c hc hk=>by
  obtain⟨n,h,-⟩:=hv i c hc hk
  exact⟨n,h⟩
 obtain⟨i,c,hc,hk,hi⟩:=nM hT hv' (fun i c hc=>(hfree i c hc).2) x a (hab a (by simp)) e1.1.symm p hp
 obtain⟨j,d,hd,hk',hj⟩:=nM hT hv' (fun i c hc=>(hfree i c hc).2) y b (hab b (by simp)) e1.2.symm q hq
 obtain⟨n,g1,g2⟩:=hv i c hc hk
 obtain⟨m,g3,g4⟩:=hv j d hd hk'
 rw[hi]at g1
 rw[hj]at g3
 injection g1 with _ g1
 injection g3 with _ g3
 subst g1 g3
 obtain rfl:i=j:=by omega
 rw[hi]at hj
 injection hj
def yC (s:List UInt8) (x y:Tm) (ok:Bool):Prop:=
 (s=[61]->(ok=true↔Ea x y))/\(s=[92,61]->(ok=true↔¬Ea x y))/\(s=[61,61]->(ok=true↔x=y))/\(s≠[92,61]->ok=true->Ea x y)
open Go.RowKit Go.Maps
mutual
theorem jZ (f:Int->Int):∀t:Tm,(fd f t).size=t.size
 | .mk k n s l=>by rw[fd,Tm.size,Tm.size,qK f l]
theorem qK (f:Int->Int):∀l:List Tm,Tm.sizes (oM f l)=Tm.sizes l
 |[]=>rfl
 |t::r=>by rw[oM,Tm.sizes,Tm.sizes,jZ f t,qK f r]
end
mutual
theorem tu (f:Int->Int):∀(t:Tm) (n:Int),n∈dP (fd f t)->∃m,m∈dP t/\n=f m
 | .mk k n s l,p,h=>by
  rw[fd,dP]at h
  rw[dP]
  rcases List.mem_append.1 h with h|h
  ·by_cases hk:k=1
   ·rw[if_pos hk,if_pos hk,List.mem_singleton]at h
    exact⟨n,List.mem_append_left _ (by rw[if_pos hk];exact List.mem_singleton.2 rfl),h⟩
   ·rw[if_neg hk]at h
    cases h
  ·obtain⟨m,h1,h2⟩:=yF f l p h
   exact⟨m,List.mem_append_right _ h1,h2⟩
theorem yF (f:Int->Int):∀(l:List Tm) (n:Int),n∈gm (oM f l)->∃m,m∈gm l/\n=f m
 |[],p,h=>by rw[oM,gm]at h;cases h
 |t::r,p,h=>by
  rw[oM,gm]at h
  rw[gm]
  rcases List.mem_append.1 h with h|h
  ·obtain⟨m,h1,h2⟩:=tu f t p h
   exact⟨m,List.mem_append_left _ h1,h2⟩
  ·obtain⟨m,h1,h2⟩:=yF f r p h
   exact⟨m,List.mem_append_right _ h1,h2⟩
end
theorem vK {m:List (Int×Int)} (h:iC m) (n:Int):0<=oP m n:=by
 unfold oP
 cases hg:aP m n with
 |none=>exact Int.le_refl _
 |some a=>
  obtain⟨i,hi⟩:=List.mem_iff_getElem?.1 (dA hg)
  have:=h.at' i _ hi
  simp only at this
  rw[Option.getD_some,this]
  omega
end
section
open Go.RowKit Go.Maps
theorem mW (u:World) (rb:Nat) (r:RC) (h:bS u rb r) (hfr:r.fr=.pointer none) (Q:Ending->World->Prop) (hQ:∀e w,Q e w->∃o:Int,e=.returned (ae o)) (hA:Calls prog 197 #[ah rb] u Q):
 Calls prog 105 #[ah rb] u Q:=by
 have c7:u.cell? (ak rb 7)=some (.pointer none):=(h.get 7).trans (by show some r.fr=_;rw[hfr])
 have HA:=ad hA
 have HQ:=ad hQ
 clear h hfr hA hQ
 go_enter func105,ntmps105
 go_wp2_with fail
 refine HA.mono ?_
 rintro e w1 hq
 obtain⟨o,rfl⟩:=HQ.out _ _ hq
 have HQQ:=ad hq
 clear hq
 go_wp2_with fail
 exact HQQ.out
open Go.Maps
structure dc (cs:List Sc) (T:Nat->Tm) (f:Int->Int):Prop where
 free:∀(i:Nat) c,cs[i]?=some c->c.to=none/\∀a∈c.args,a<cs.length
 comp:∀(i:Nat) c,cs[i]?=some c->c.k≠1->T i=.mk c.k c.n c.s (c.args.map T)
 var:∀(i:Nat) c,cs[i]?=some c->c.k=1->c.args=[]/\∃n,T i=.mk 1 n [] []/\f n=i
mutual
theorem zZ {cs:List Sc} {T:Nat->Tm} {f:Int->Int} (h:dc cs T f):∀(t:Tm) (i:Nat),i<cs.length->T i=t->ic cs i (fd f t)
 | .mk k n s l,i,hi,he=>by
  have hc:=au hi
  generalize cs[i]=c at hc
  obtain⟨h1,h2⟩:=h.free i c hc
  by_cases hk:c.k=1
  ·obtain⟨-,m,e1,e2⟩:=h.var i c hc hk
   rw[he]at e1
   injection e1 with q1 q2 q3 q4
   subst q1 q2 q3 q4
   rw[fd,if_pos rfl,e2]
   exact .var (.here hc h1) hc hk
  ·have e1:=h.comp i c hc hk
   rw[he]at e1
   injection e1 with q1 q2 q3 q4
   subst q1 q2 q3
   rw[fd,if_neg hk]
   refine .part (.here hc h1) hc hk (by rw[gR,List.length_map,q4,List.length_map]) fun q a t ha ht=>?_
   have hm:=List.mem_of_getElem? ha
   have hlq:l[q]?=some (T a):=by rw[q4,List.getElem?_map,ha];rfl
   rw[gR,List.getElem?_map,hlq]at ht
   injection ht with ht
   rw[<-ht]
   exact Dc h l (T a) (List.mem_of_getElem? hlq) a (h2 a hm) rfl
theorem Dc {cs:List Sc} {T:Nat->Tm} {f:Int->Int} (h:dc cs T f):∀(l:List Tm) (t:Tm),t∈l->∀(i:Nat),i<cs.length->T i=t->ic cs i (fd f t)
 |[],t,ht=>by cases ht
 |x::r,t,ht=>fun i hi he=>by
  have hx:=zZ h x
  have hr:=Dc h r
  rcases List.mem_cons.1 ht with e|ht
  ·subst e
   exact hx i hi he
  ·exact hr t ht i hi he
end
mutual
theorem pw {cs:List Sc} {T:Nat->Tm} {f:Int->Int} (h:dc cs T f):∀(t:Tm) (i:Nat),i<cs.length->T i=t->∀p∈dP t,∃(j:Nat) (c:Sc),cs[j]?=some c/\c.k=1/\T j=.mk 1 p [] []
 | .mk k n s l,i,hi,he,p,hp=>by
  have hc:=au hi
  generalize cs[i]=c at hc
  by_cases hk:c.k=1
  ·obtain⟨-,m,e1,-⟩:=h.var i c hc hk
   have e2:=e1
   rw[he]at e1
   injection e1 with q1 q2 q3 q4
   subst q1 q2 q3 q4
   simp only[dP,gm,if_true,List.append_nil,List.mem_singleton]at hp
   subst hp
   exact⟨i,c,hc,hk,e2⟩
  ·have e1:=h.comp i c hc hk
   rw[he]at e1
   injection e1 with q1 q2 q3 q4
   subst q1 q2 q3
   rw[dP,if_neg hk,List.nil_append]at hp
   exact uD h l (fun t ht=>by
    rw[q4]at ht
    obtain⟨a,h3,h4⟩:=List.mem_map.1 ht
    exact⟨a,(h.free i c hc).2 a h3,h4⟩) p hp
theorem uD {cs:List Sc} {T:Nat->Tm} {f:Int->Int} (h:dc cs T f):∀(l:List Tm),(∀t∈l,∃a,a<cs.length/\T a=t)->∀p∈gm l,∃(j:Nat) (c:Sc),cs[j]?=some c/\c.k=1/\T j=.mk 1 p [] []
 |[],_,p,hp=>by simp[gm]at hp
 |x::r,hl,p,hp=>by
  rw[gm]at hp
  rcases List.mem_append.1 hp with hp|hp
  ·obtain⟨a,h1,h2⟩:=hl x (List.mem_cons_self ..)
   exact pw h x a h1 h2 p hp
  ·exact uD h r (fun t ht=>hl t (List.mem_cons_of_mem _ ht)) p hp
end
section
variable {cs:List Sc} {T:Nat->Tm} {f:Int->Int}
theorem dc.inj (h:dc cs T f) {i j:Nat} (hi:i<cs.length) (hj:j<cs.length):∀p∈dP (T i),∀q∈dP (T j),f p=f q->p=q:=fun p hp q hq e=>by
 obtain⟨a,c,h1,h2,h3⟩:=pw h (T i) i hi rfl p hp
 obtain⟨b,d,g1,g2,g3⟩:=pw h (T j) j hj rfl q hq
 obtain⟨-,n,q1,q2⟩:=h.var a c h1 h2
 obtain⟨-,m,r1,r2⟩:=h.var b d g1 g2
 rw[h3]at q1
 rw[g3]at r1
 injection q1 with _ q1
 injection r1 with _ r1
 subst q1 r1
 obtain rfl:a=b:=by omega
 rw[h3]at g3
 injection g3
theorem dc.vnil (h:dc cs T f):cj cs:=fun i c hc hk=>(h.var i c hc hk).1
theorem dc.nonneg (h:dc cs T f) {i:Nat} (hi:i<cs.length):∀p∈dP (T i),0<=f p/\f p<cs.length:=fun p hp=>by
 obtain⟨a,c,h1,h2,h3⟩:=pw h (T i) i hi rfl p hp
 obtain⟨-,n,q1,q2⟩:=h.var a c h1 h2
 rw[h3]at q1
 injection q1 with _ q1
 subst q1
 have:=(aq h1).1
 omega
theorem dc.arg (h:dc cs T f) {i:Nat} (hi:i<cs.length) {k n:Int} {s:List UInt8} {l:List Tm} (he:T i=.mk k n s l) (hk:k≠1):∃c,cs[i]?=some c/\c.k=k/\c.n=n/\c.s=s/\c.to=none/\c.args.map T=l/\∀a∈c.args,a<cs.length:=by
 have hc:=au hi
 generalize cs[i]=c at hc
 by_cases h1:c.k=1
 ·obtain⟨-,m,e1,-⟩:=h.var i c hc h1
  rw[he]at e1
  injection e1 with q1
  exact absurd q1 hk
 ·have e1:=h.comp i c hc h1
  rw[he]at e1
  injection e1 with q1 q2 q3 q4
  exact⟨c,hc,q1.symm,q2.symm,q3.symm,(h.free i c hc).1,q4.symm,(h.free i c hc).2⟩
end
theorem np:∀l:List (Int×Nat),∃K:Int,∀x∈l,x.1<K
 |[]=>⟨0,fun x hx=>by cases hx⟩
 |y::r=>by
  obtain⟨K,hK⟩:=np r
  refine⟨max K (y.1+1),fun x hx=>?_⟩
  rcases List.mem_cons.1 hx with rfl|hx
  ·omega
  ·have:=hK x hx
   omega
theorem dc.put {cs:List Sc} {T:Nat->Tm} {f:Int->Int} (h:dc cs T f) (b:Tm) (hb:b.may=true):∃T' f',dc (aV b ⟨cs,[]⟩).2.cs T' f'/\T' (aV b ⟨cs,[]⟩).1=b/\(aV b ⟨cs,[]⟩).1<(aV b ⟨cs,[]⟩).2.cs.length/\cs.length<=(aV b ⟨cs,[]⟩).2.cs.length∧
 (∀i,i<cs.length->(aV b ⟨cs,[]⟩).2.cs[i]?=cs[i]?)/\(∀n,0<=f' n)/\∀(i:Nat) c,cs.length<=i->(aV b ⟨cs,[]⟩).2.cs[i]?=some c->c.k=1->∃n,T' i=.mk 1 n [] []/\aP (aV b ⟨cs,[]⟩).2.fr n=some i:=by
 obtain⟨K,hK⟩:=np (aV b ⟨cs,[]⟩).2.fr
 obtain⟨T',hP,hF,h1,h2⟩:=jX b ⟨cs,[]⟩ (fun i=>fd (fun n=>K+f n) (T i)) ⟨fun x hx=>(by cases hx),fun x hx=>(by cases hx)⟩ hb
 have hold:∀i,i<cs.length->(aV b ⟨cs,[]⟩).2.cs[i]?=cs[i]?/\T' i=fd (fun n=>K+f n) (T i):=hP.old
 have hget:∀(n:Int) (i:Nat),(n,i)∈(aV b ⟨cs,[]⟩).2.fr->aP (aV b ⟨cs,[]⟩).2.fr n=some i:=fun n i hn=>by
  cases hg:aP (aV b ⟨cs,[]⟩).2.fr n with
  |none=>exact absurd rfl (dr hg _ hn)
  |some j=>exact congrArg some (hF.one _ (dA hg) _ hn rfl)
 have hnew:∀(i:Nat) c,cs.length<=i->(aV b ⟨cs,[]⟩).2.cs[i]?=some c->c.k=1->∃n,T' i=.mk 1 n [] []/\aP (aV b ⟨cs,[]⟩).2.fr n=some i:=fun i c hi hc hk=>by
  obtain⟨n,hn⟩:=(hP.new i c hi hc).2.2.1 hk
  exact⟨n,(hF.at' _ hn).2,hget n i hn⟩
 refine⟨T',fun n=>if n<K then gD (aV b ⟨cs,[]⟩).2.fr n else n-K,⟨fun i c hc=>?_,fun i c hc hk=>?_,fun i c hc hk=>?_⟩,h2,h1,hP.len,fun i hi=>(hold i hi).1,fun n=>?_,hnew⟩
 ·by_cases hi:i<cs.length
  ·rw[(hold i hi).1]at hc
   exact⟨(h.free i c hc).1,fun a ha=>Nat.lt_of_lt_of_le ((h.free i c hc).2 a ha) hP.len⟩
  ·obtain⟨g1,g2,-⟩:=hP.new i c (by simpa using hi) hc
   exact⟨g1,g2⟩
 ·by_cases hi:i<cs.length
  ·rw[(hold i hi).1]at hc
   rw[(hold i hi).2,h.comp i c hc hk,fd,if_neg hk,gR,List.map_map]
   congr 1
   exact List.map_congr_left fun a ha=>((hold a ((h.free i c hc).2 a ha)).2).symm
  ·exact(hP.new i c (by simpa using hi) hc).2.2.2 hk
 ·by_cases hi:i<cs.length
  ·rw[(hold i hi).1]at hc
   obtain⟨e0,n,e1,e2⟩:=h.var i c hc hk
   refine⟨e0,K+f n,by rw[(hold i hi).2,e1,fd,if_pos rfl];rfl,?_⟩
   rw[if_neg (by omega)]
   omega
  ·obtain⟨n,e1,e2⟩:=hnew i c (by omega) hc hk
   refine⟨?_,n,e1,?_⟩
   ·exact mI b ⟨cs,[]⟩ hb h.vnil i c hc hk
   ·rw[if_pos (hK _ (dA e2))]
    unfold gD
    rw[e2]
    rfl
 ·show 0<=if n<K then gD (aV b ⟨cs,[]⟩).2.fr n else n-K
  split
  ·unfold gD
   omega
  ·omega
end
section
open Go.Maps
def sL:Sc:=⟨1,0,[],[],none⟩
def tN (a:Nat):Sc:=⟨4,0,[112],[a],none⟩
def EY (z:Int):Sc:=⟨2,z,[],[],none⟩
def lE (z:Int):Tm:=.mk 4 0 [112] [.mk 2 z [] []]
structure kY (cs:List Sc):Prop where
 c0:cs[0]?=some (tN 1)
 c1:cs[1]?=some sL
 vnil:cj cs
def dK (cs:List Sc) (z:Int):List Sc:=cs++[tN (cs.length+1),EY z]
def cD (cs:List Sc) (z:Int):List Sc:=cP (dK cs z) 1 sL (some (cs.length+1))
theorem zX (cs:List Sc) (z:Int):aV (lE z) ⟨cs,[]⟩=(cs.length,⟨dK cs z,[]⟩):=by
 unfold lE dK
 simp[aV,bW,tN,EY]
theorem Bf:aV (.mk 4 0 [112] [.mk 1 0 [] []]) ⟨[],[]⟩=(0,⟨[tN 1,sL],[(0,1)]⟩):=by
 simp[aV,bW,aP,tN,sL]
theorem kY.first:kY [tN 1,sL]:=⟨rfl,rfl,fun i c hc hk=>by
 match i,hc with
 |0,hc=>injection hc with hc;subst hc;cases hk
 |1,hc=>injection hc with hc;subst hc;rfl⟩
section
variable {cs:List Sc} {z:Int}
theorem kY.len (h:kY cs):2<=cs.length:=by
 have:=(aq h.c1).1
 omega
theorem uX (i:Nat) (c:Sc) (h:cs[i]?=some c):(dK cs z)[i]?=some c:=by
 unfold dK
 rw[List.getElem?_append_left (aq h).1]
 exact h
theorem Dw:(dK cs z)[cs.length]?=some (tN (cs.length+1)):=by simp[dK]
theorem Br:(dK cs z)[cs.length+1]?=some (EY z):=by simp[dK]
theorem iA:(dK cs z).length=cs.length+2:=by simp[dK]
theorem kY.more (h:kY cs):kY (dK cs z):=⟨uX _ _ h.c0,uX _ _ h.c1,fun i c hc hk=>by
 by_cases hi:i<cs.length
 ·unfold dK at hc
  rw[List.getElem?_append_left hi]at hc
  exact h.vnil i c hc hk
 ·obtain⟨j,rfl⟩:∃j,i=cs.length+j:=⟨i-cs.length,by omega⟩
  unfold dK at hc
  rw[List.getElem?_append_right (by omega),Nat.add_sub_cancel_left]at hc
  match j,hc with
  |0,hc=>injection hc with hc;subst hc;cases hk
  |1,hc=>injection hc with hc;subst hc;cases hk⟩
theorem dJ {a j:Nat} {c:Sc} (hc:cs[a]?=some c) (h0:c.to=none) (h:bP cs a j):j=a:=h.fn (.here hc h0)
theorem E3 {hd a:Nat} (h0:cs[0]?=some (tN 1)) (h1:cs[1]?=some sL) (hh:cs[hd]?=some (tN a)) (ha:cs[a]?=some (EY z)) (hne:hd≠0) {R:Bool×Int} {cs':List Sc} {bs':List Nat} (hu:l6 false cs [] [(hd,0)] 0 R cs' bs'):
 R=(true,0)/\cs'=cP cs 1 sL (some a)/\bs'=[1]:=by
 cases hu with
 |tired hw=>omega
 |same ka kb hr=>exact absurd ((dJ hh rfl ka).symm.trans (dJ h0 rfl kb)) hne
 |bind ka kb hij hv hx hk hw hr=>
  obtain rfl:=dJ hh rfl ka
  obtain rfl:=dJ h0 rfl kb
  rcases hv with⟨rfl,rfl⟩|⟨rfl,rfl⟩
  ·rw[hh]at hx
   injection hx with hx
   subst hx
   cases hk
  ·rw[h0]at hx
   injection hx with hx
   subst hx
   cases hk
 |occurs hs=>cases hs
 |clash ka kb hx hy hk hk' hn=>
  obtain rfl:=dJ hh rfl ka
  obtain rfl:=dJ h0 rfl kb
  rw[hh]at hx
  rw[h0]at hy
  injection hx with hx
  injection hy with hy
  subst hx hy
  exact absurd ⟨rfl,rfl,rfl,rfl⟩ hn
 |args ka kb hx hy hk hk' hn hr=>
  obtain rfl:=dJ hh rfl ka
  obtain rfl:=dJ h0 rfl kb
  rw[hh]at hx
  rw[h0]at hy
  injection hx with hx
  injection hy with hy
  subst hx hy
  have hr':l6 false cs [] [(a,1)] 1 R cs' bs':=hr
  clear hr
  cases hr' with
  |tired hw=>omega
  |same ka kb hr=>
   obtain rfl:=dJ ha rfl ka
   obtain rfl:=dJ h1 rfl kb
   rw[h1]at ha
   cases ha
  |bind ka kb hij hv hx hk hw hr=>
   obtain rfl:=dJ ha rfl ka
   obtain rfl:=dJ h1 rfl kb
   rcases hv with⟨rfl,rfl⟩|⟨rfl,rfl⟩
   ·rw[ha]at hx
    injection hx with hx
    subst hx
    cases hk
   ·rw[h1]at hx
    injection hx with hx
    subst hx
    cases hr with
    |done=>exact⟨rfl,rfl,rfl⟩
  |occurs hs=>cases hs
  |clash ka kb hx hy hk hk' hn=>
   obtain rfl:=dJ h1 rfl kb
   rw[h1]at hy
   injection hy with hy
   subst hy
   exact absurd rfl hk'
  |args ka kb hx hy hk hk' hn hr=>
   obtain rfl:=dJ h1 rfl kb
   rw[h1]at hy
   injection hy with hy
   subst hy
   exact absurd rfl hk'
theorem kY.uni (h:kY cs) {R:Bool×Int} {cs':List Sc} {bs':List Nat} (hu:l6 false (dK cs z) [] [(cs.length,0)] 0 R cs' bs'):R=(true,0)/\cs'=cD cs z/\bs'=[1]:=
 E3 h.more.c0 h.more.c1 Dw Br (by have:=h.len;omega) hu
theorem kY.one (h:kY cs):(cD cs z)[1]?=some ⟨sL.k,sL.n,sL.s,sL.args,some (cs.length+1)⟩:=eF h.more.c1 _
theorem kY.got (h:kY cs):ic (cD cs z) 1 (.mk 2 z [] []):=by
 have ha:(cD cs z)[cs.length+1]?=some (EY z):=(dg _ _ (by have:=h.len;omega)).trans Br
 exact .part (l:=[]) (.step h.one rfl (.here ha rfl)) ha (show(2:Int)≠1 by decide) rfl (fun q a t hq=>by cases hq)
theorem kY.bvnil (h:kY cs):cj (cD cs z):=fun i c hc hk=>by
 by_cases hi:i=1
 ·subst hi
  rw[h.one]at hc
  injection hc with hc
  subst hc
  rfl
 ·rw[cD,dg _ _ hi]at hc
  exact h.more.vnil i c hc hk
theorem kY.undo (h:kY cs):gA (cD cs z) [1]=dK cs z:=by
 show kH (cD cs z) 1=_
 unfold kH
 rw[h.one]
 show cP (cP (dK cs z) 1 sL _) 1 _ none=_
 unfold cP
 rw[List.set_set]
 refine List.ext_getElem? fun i=>?_
 by_cases hi:i=1
 ·subst hi
  rw[List.getElem?_set_self (by rw[iA];have:=h.len;omega),h.more.c1]
  rfl
 ·rw[List.getElem?_set_ne (Ne.symm hi)]
end
end
section
open Go.RowKit Go.Maps
def gV (z:Int):List UInt8:=if z=1 then[49]else[50]
section
variable {z:Int} (hz:z=1\/z=2) (w:World)
include hz
theorem Cl:Calls prog 300 #[ae z] w fun e w'=>e=.returned (af (gV z))/\w'=w:=by
 rcases hz with rfl|rfl
 all_goals
  go_enter func300,ntmps300
  go_wp2_with fail
  go_ret
  exact⟨rfl,rfl⟩
theorem DB:Calls prog 230 #[ae z,ae 10] w fun e w'=>e=.returned (af (gV z))/\w'=w:=by
 have HS:=ad (Cl hz w)
 rcases hz with rfl|rfl
 all_goals
  go_enter func230,ntmps230
  go_wp2_with fail
  refine HS.mono ?_
  rintro e w1 ⟨rfl,rfl⟩
  go_wp2_with fail
  go_ret
  exact⟨rfl,rfl⟩
theorem Ex:Calls prog 136 #[ae z,ae 10] w fun e w'=>e=.returned (af (gV z))/\w'=w:=by
 have HS:=ad (DB hz w)
 generalize gV z=D at*
 clear hz
 go_enter func136,ntmps136
 go_wp2_with fail
 refine HS.mono ?_
 rintro e w1 ⟨rfl,rfl⟩
 go_wp2_with fail
 go_ret
 exact⟨rfl,rfl⟩
theorem Ct:Calls prog 64 #[ae z] w fun e w'=>e=.returned (af (gV z))/\w'=w:=by
 have HS:=ad (Ex hz w)
 generalize gV z=D at*
 clear hz
 go_enter func64,ntmps64
 go_wp2_with fail
 refine HS.mono ?_
 rintro e w1 ⟨rfl,rfl⟩
 go_wp2_with fail
 go_ret
 exact⟨rfl,rfl⟩
end
theorem Af:∃i,prog.info? 5=some i/\i.zero=some (.int .u8 0)/\i.size=1/\i.bytes=1:=by
 refine⟨_,rfl,?_,?_,?_⟩<;>kernel_rfl
theorem C1 (s:List UInt8):Lib.strCells ⟨s.toArray⟩=s.flatMap bK:=by
 unfold Lib.strCells
 simp only
 induction s with
 |nil=>rfl
 |cons c r ih=>
  rw[List.flatMap_cons]
  simp only[List.map_cons]at ih⊢
  rw[ih]
  rfl
def Ek (wb bt:Nat) (v:Value):Array Value:=#[v,ae 1,ah bt,.func (.func 27) #[ah wb] #[]]
def E8 (u:World) (wb bt:Nat) (s:List UInt8) (u':World):Prop:=∃v,aS u' (wb+1) 5 1 bK v s/\u'.heap[wb]?=some (.cells (Ek wb bt v) 79 (0,0))/\Fr (fun k=>k=wb) u u'
theorem DL (u:World) (wb bt:Nat) (s:List UInt8) (hs:s.length<=10) (h:u.heap[wb]?=some (.cells (Ek wb bt aj) 79 (0,0))):
 Calls prog 27 #[ah wb,af s] u fun e u'=>e=am/\E8 u wb bt s u':=by
 obtain⟨i0,hi,hz0,hz1,hz2⟩:=Af
 have hlt:=(ap h).1
 have hsz:(⟨s.toArray⟩:ByteArray).size=s.length:=by simp[ByteArray.size]
 have c0:u.cell? (ak wb 0)=some aj:=(cell_of_row _ _ 0 _ _ _ h).trans rfl
 have HL:=ad (aD hs hsz)
 have HB:=ad h
 clear hs hsz h
 go_enter func27,ntmps27
 go_wp2_with (at_builtin;refine Lib.wpList_append_own_string _ rfl _ _ 76 9 rfl (wb+1) 5 i0 underlying76 underlying9 hi hz0 hz1 hz2 _ _ _ rfl (aS.nil (sz:=1) (enc:=bK) u (wb+1) 5).own ⟨s.toArray⟩ rfl ?c3 ?c4 ?c5 ?_)
 case c3=>rw[HL.2];have:=HL.1;unfold maxLen;simp only[List.length_nil];omega
 case c4=>rw[HL.2];have:=HL.1;simp only[List.length_nil];omega
 case c5=>omega
 intro v' w2 hown' hgrow _
 rw[C1]at hown'
 have hrow:aS w2 (wb+1) 5 1 bK v' s:=⟨hown'⟩
 obtain⟨A2,c2,rfl⟩:=hrow.shape
 have hF:Fr (fun k=>k=wb) u w2:=(Fr.refl _ u).grown hgrow fun g e=>by cases e
 have hb2:w2.heap[wb]?=some (.cells (Ek wb bt aj) 79 (0,0)):=(hgrow.block wb hlt (fun e=>by cases e)).trans HB.out
 have d0:w2.cell? (ak wb 0)=some aj:=(cell_of_row _ _ 0 _ _ _ hb2).trans rfl
 have df:w2.frozen? ⟨wb,0,none⟩=false:=by simp[World.frozen?,hb2]
 have HQ:Hid (E8 u wb bt s (w2.setCell (ak wb 0) (.slice A2 s.length c2))):=ad ⟨_,hrow.keep fun k hk=>av _ _ _ _ (by have:=(hrow.lt k hk).1;show k≠wb;omega),aK hb2 _,hF.setCell (p:=(ak wb 0)) (.inl rfl) _⟩
 have hl2:=(ap hb2).1
 clear hown' hrow hF hb2 hgrow c0
 generalize s.length=m5 at*
 go_wp2_with fail
 go_end0
 exact⟨rfl,HQ.out⟩
theorem CO {z:Int} (hz:z=1\/z=2) (u:World) (wb bt:Nat) (A:Option Addr) (c:Nat) (h:u.heap[wb]?=some (.cells (Ek wb bt aj) 79 (0,0))):
 Calls prog 28 #[ah wb,.agg #[ae 2,ae z,ai,.slice A 0 c],ae 1200] u fun e u'=>e=am/\∃w,aE u w/\E8 w wb bt (gV z) u':=by
 obtain⟨W,hW⟩:∃W,W=u.alloc (.cells #[ae 2,ae z,ai,.slice A 0 c] 27):=⟨_,rfl⟩
 have hb:aE u W:=by rw[hW];exact aB
 have hx:W.heap[u.heap.size]?=some (.cells #[ae 2,ae z,ai,.slice A 0 c] 27 (0,0)):=by rw[hW];exact az
 have hw:=(hb.block _ (ap h).1).trans h
 have hne:u.heap.size≠wb:=by have:=(ap h).1;omega
 have HSV:Hid (∀(v:World) (x:Value),v.heap[wb]?=some (.cells (Ek wb bt x) 79 (0,0))->v.heap[u.heap.size]?=W.heap[u.heap.size]?->v.cell? (ak wb 3)=some (.func (.func 27) #[ah wb] #[])/\v.cell? (ak u.heap.size 1)=some (ae z)):=ad fun v x h1 h2=>⟨(cell_of_row _ _ 3 _ _ _ h1).trans rfl,(cell_of_row _ _ 1 _ _ _ (h2.trans hx)).trans rfl⟩
 have HAD:Hid (Calls prog 27 #[ah wb,af (gV z)] W.drew fun e v=>e=am/\E8 W.drew wb bt (gV z) v/\v.cell? (ak wb 3)=some (.func (.func 27) #[ah wb] #[])/\v.cell? (ak u.heap.size 1)=some (ae z)):=ad (by
  refine(DL W.drew wb bt (gV z) (by unfold gV;split<;>decide) hw).mono ?_
  rintro e v ⟨rfl,x,k1,k2,k3⟩
  exact⟨rfl,⟨x,k1,k2,k3⟩,HSV.out v x k2 (k3.block _ (ap hx).1 hne)⟩)
 have HPR:=ad (fun v=>Ct hz v)
 have HSD:=ad (HSV.out W.drew _ hw rfl)
 have HB:=ad hb
 obtain⟨y0,y1,y2,y3,-⟩:=aH hx
 clear hb hx hw hne h hz HSV
 generalize gV z=D at*
 go_enter func28,ntmps28
 go_upto_region 6 with fail
 rw[<-hW]
 clear hW
 go_region_held3 (fun v=>v.cell? (ak wb 3)=some (.func (.func 27) #[ah wb] #[])/\v.cell? (ak u.heap.size 1)=some (ae z))
  (first|(with_reducible exact HA1.out)|(with_reducible exact HSD.out))
  (first|(go_at_call 64;with_reducible refine(HPR.out _).mono ?_;rintro e v1 ⟨rfl,rfl⟩)|(go_at_call 27;with_reducible refine HAD.out.mono ?_;rintro e v2 ⟨rfl,k1,k2⟩;have HA1:=ad k2;have HG:=ad k1;clear k1 k2))
 go_wp2_with fail
 go_end0
 exact⟨rfl,_,HB.drew,HG.out⟩
theorem DT {z:Int} (hz:z=1\/z=2) (u:World) (bt:Nat) (A:Option Addr) (c:Nat):
 Calls prog 16 #[.agg #[ae 2,ae z,ai,.slice A 0 c],ae 1,ah bt] u fun e u'=>e=.returned (.tuple #[af (gV z),ae 0])/\aE u u':=by
 obtain⟨W,hW⟩:∃W,W=u.alloc (.cells #[ae 2,ae z,ai,.slice A 0 c] 27):=⟨_,rfl⟩
 have hb:aE u W:=by rw[hW];exact aB
 have hx:W.heap[u.heap.size]?=some (.cells #[ae 2,ae z,ai,.slice A 0 c] 27 (0,0)):=by rw[hW];exact az
 have HCK:Hid (Calls prog 26 #[.agg #[ae 2,ae z,ai,.slice A 0 c]] W fun e w=>e=.returned (ae 0)/\aE W w):=ad (by
  have:=cY W ⟨2,z,[],A,0,c⟩ (.mk 2 z [] []) ((aI.leaf W (fun _=>False) 2 z [] A c (by decide)).at fun b hb=>hb.elim) (by simp[Tm.size,Tm.sizes]) (Nat.le_trans (cV _) (by simp[Tm.size,Tm.sizes]))
  exact this)
 obtain⟨y0,y1,y2,y3,-⟩:=aH hx
 have HB:=ad hb
 have HX:=ad hx
 clear hb hx
 go_enter func16,ntmps16
 go_upto_region 1 with fail
 rw[<-hW]
 clear hW
 go_wp2_with fail
 refine HCK.mono ?_
 rintro e W1 ⟨rfl,hb1⟩
 obtain⟨wb,hwb⟩:∃wb,wb=W1.heap.size:=⟨_,rfl⟩
 obtain⟨U,hU⟩:∃U,U=W1.alloc (.cells #[aj,ae 1,ah bt,.func (.func 27) #[ah wb] #[]] 79):=⟨_,rfl⟩
 have hbU:aE W1 U:=by rw[hU];exact aB
 have hu0:U.heap[wb]?=some (.cells (Ek wb bt aj) 79 (0,0)):=by rw[hU,hwb];exact az
 have hx1:=(hb1.block _ (ap HX.out).1).trans HX.out
 have hxU:=(hbU.block _ (ap hx1).1).trans hx1
 have huU:aE u U:=(HB.trans (hb1.mono HB.size)).trans (hbU.mono (Nat.le_trans HB.size hb1.size))
 have HT:=ad (CO hz U wb bt A c hu0)
 have HUU:=ad (aD huU (show u.heap.size<=wb by rw[hwb];exact Nat.le_trans HB.size hb1.size))
 obtain⟨f0,f1,f2,f3,-⟩:=aH hx1
 clear hbU hu0 huU hb1 hx1 y0 y1 y2 y3 HB HX HCK
 go_upto_region 10 with fail
 rw[<-hwb,<-hU]
 clear hU hwb f0 f1 f2 f3
 obtain⟨f0,f1,f2,f3,-⟩:=aH hxU
 clear hxU
 go_wp2_with fail
 refine HT.mono ?_
 rintro e W3 ⟨rfl,w,hw,x,k1,k2,k3⟩
 obtain⟨A9,c9,rfl⟩:=k1.shape
 have c0:W3.cell? (ak wb 0)=some (.slice A9 (gV z).length c9):=(cell_of_row _ _ 0 _ _ _ k2).trans rfl
 have hcv:=aS.string underlying76 underlying5 underlying9 k1
 have HQ:Hid (aE u W3):=ad ((HUU.1.trans (hw.mono HUU.1.size)).trans (k3.below (Nat.le_trans HUU.1.size hw.size) fun k hk e=>by have:=HUU.2;omega))
 clear k1 k2 k3 hw f0 f1 f2 f3
 go_wp2_with fail
 go_ret2
 exact⟨rfl,HQ.out⟩
end
section
open Go.RowKit Go.Maps
theorem Cx (w:World):Calls prog 35 #[.string ⟨#[112]⟩,ae 1] w fun e w'=>e=.returned (.bool false)/\aE w w':=by
 have HK:=ad (nG w 4 0 [112] none 0 0 1 (.inr rfl) (by decide) (by decide) (by decide))
 have hk0:bI 4 [112] 1=0:=by decide+kernel
 rw[hk0]at HK
 clear hk0
 go_enter func35,ntmps35
 go_wp2_with fail
 refine HK.mono ?_
 rintro e w1 ⟨rfl,hb1⟩
 have HB1:=ad hb1
 clear hb1 HK
 go_upto_region 7 with fail
 go_wp2_with fail
 refine(ux _ _).mono ?_
 rintro e w3 ⟨b,rfl,h3⟩
 have hlk:=(dz.of h3).look [112] 1 (by unfold ez;decide)
 rw[show aP sB ([112],(1:Int))=none by decide+kernel]at hlk
 have HB3:=ad h3
 clear h3
 go_wp2_with fail
 refine(vv _).mono ?_
 rintro e w4 ⟨rfl,rfl⟩
 go_wp2_with fail
 refine(vB _).mono ?_
 rintro e w5 ⟨rfl,rfl⟩
 go_wp2_with fail
 go_ret
 obtain⟨L,hL,-⟩:=HB3.out
 exact⟨rfl,HB1.trans (aB.trans (hL.below.mono (by simp))|>.mono HB1.size)⟩
end
end Go.Proofs.YtigeofkllldilaaGreatDoor
