import Derived.Test.YtigeofkllldilaaGreatDoorJM47
import Derived.Test.YtigeofkllldilaaGreatDoorJM52
import Derived.Test.YtigeofkllldilaaGreatDoorJM31
import Derived.Test.YtigeofkllldilaaGreatDoorJM49
set_option maxHeartbeats 32000000
set_option maxRecDepth 100000
set_option linter.unusedSectionVars false
open Go.Proofs.Tryz
namespace Go.Proofs.YtigeofkllldilaaGreatDoor
section
open Go.RowKit Go.Maps
def eZ:Tm:=.mk 3 0 [36,110,111,110,101] []
def qi:Tm:=.mk 1 99999 [] []
theorem Df (t:Tm) (hm:t.may=true):(bA t).k=t.k:=by
 obtain⟨f,e,-⟩:=jJ hm
 rw[e,Ef]
theorem AY {t:Tm} (hm:t.may=true):bA t=eZ↔t=eZ:=by
 constructor
 ·intro h
  obtain⟨f,e,-⟩:=jJ hm
  rw[e]at h
  obtain⟨k,n,s,l⟩:=t
  rw[fd]at h
  injection h with h1 h2 h3 h4
  subst h1 h3
  rw[if_neg (by decide)]at h2
  subst h2
  cases l with
  |nil=>rfl
  |cons a r=>rw[oM]at h4;cases h4
 ·rintro rfl
  rfl
theorem ic.step {cs:List Sc} {i q:Nat} {c:Sc} {t:Tm} (h:cs[i]?=some c) (ht:c.to=some q) (hg:ic cs q t):ic cs i t:=by
 cases hg with
 |var hr hc hk=>exact .var (.step h ht hr) hc hk
 |part hr hc hk hl ha=>exact .part (.step h ht hr) hc hk hl ha
theorem qT {cs:List Sc} {i:Nat} {c:Sc} (h:cs[i]?=some c) (h0:c.to=none) (hk:c.k=3) (hn:c.n=0) (hs:c.s=[116,114,117,101]) (ha:c.args=[]):ic cs i fN:=by
 have:=ic.part (l:=[]) (.here h h0) h (by rw[hk];decide) (by rw[ha];rfl) (fun q a t hq=>by rw[ha]at hq;cases hq)
 rw[hk,hn,hs]at this
 exact this
section
variable {cs:List Sc} {T:Nat->Tm} {f:Int->Int} {i2 i3:Nat} {t:Tm}
theorem t7 (h:dc cs T f) (h2:T i2=eZ) (h3:T i3=fN) (hl2:i2<cs.length) (hl3:i3<cs.length) (hm:t.may=true) (hk:t.k≠1) {ok:Bool} {z:Int} {csF:List Sc} {bsF:List Nat} (hu:l6 false (aV (bA t) ⟨cs,[]⟩).2.cs [] [(i2,(aV (bA t) ⟨cs,[]⟩).1)] 0 (ok,z) csF bsF):
 z=0/\(ok=true->t=eZ/\ic csF i3 fN/\cj csF)/\(ok=false->t≠eZ):=by
 obtain⟨T',f',hC,hq,hql,hle,hold,-⟩:=h.put (bA t) (gQ hm)
 have hge:=(nF cs.length (bA t) ⟨cs,[]⟩ aC (fun y hy=>by cases hy)).1
 obtain⟨x,hx,xk,xn,xs,xt,xa,-⟩:=h.arg hl2 h2 (by decide)
 obtain⟨c3,hc3,k3,n3,s3,t3,a3,-⟩:=h.arg hl3 h3 (by decide)
 have xa':x.args=[]:=List.map_eq_nil_iff.1 xa
 have a3':c3.args=[]:=List.map_eq_nil_iff.1 a3
 obtain⟨k,n,s,l,hnt⟩:∃k n s l,bA t=.mk k n s l:=by
  cases bA t
  exact⟨_,_,_,_,rfl⟩
 have hk':k≠1:=by
  have:=Df t hm
  rw[hnt]at this
  exact fun e=>hk (this.symm.trans e)
 obtain⟨y,hy,yk,yn,ys,yt,ya,-⟩:=hC.arg hql (hq.trans hnt) hk'
 obtain⟨e0,e1,e2⟩:=Bh (by omega) ((hold i2 hl2).trans hx) xt (by rw[xk];decide) xa' hy yt (by rw[yk];exact hk') hu
 have hiff:ok=true↔t=eZ:=by
  rw[e2,<-AY hm,hnt,xk,xn,xs,yk,yn,ys]
  constructor
  ·rintro⟨q1,q2,q3,q4⟩
   rw[q4]at ya
   rw[<-q1,<-q2,<-q3,<-ya]
   rfl
  ·intro e
   injection e with q1 q2 q3 q4
   rw[q4]at ya
   exact⟨q1.symm,q2.symm,q3.symm,List.map_eq_nil_iff.1 ya⟩
 refine⟨e0,fun e=>⟨hiff.1 e,?_,?_⟩,fun e e'=>by rw[hiff.2 e']at e;cases e⟩
 ·rw[(e1 e).1]
  exact qT ((hold i3 hl3).trans hc3) t3 k3 n3 s3 a3'
 ·rw[(e1 e).1]
  exact hC.vnil
def vq (fr:List (Int×Nat)) (t:Tm) (csF:List Sc):Prop:=∃(i:Nat) (b:Tm),aP (jD fr) 99999=some ((i:Nat):Int)/\ic csF i b/\cj csF/\b.may=true/\(∀n∈dP b,fP n)/\b.size=t.size/\bA b=bA t
theorem xP {fr:List (Int×Nat)} (h:dc cs T f) (hfr:∀(i:Nat) c,cs[i]?=some c->c.k=1->∃n,T i=.mk 1 n [] []/\aP fr n=some i) (hlen:cs.length<=2000) (h2:T i2=qi) (h3:T i3=fN) (hl2:i2<cs.length) (hl3:i3<cs.length) (hm:t.may=true) (hs:t.size<=2000) (hk:t.k≠1) {ok:Bool} {z:Int} {csF:List Sc} {bsF:List Nat} (hu:l6 false (aV (bA t) ⟨cs,[]⟩).2.cs [] [(i2,(aV (bA t) ⟨cs,[]⟩).1)] 0 (ok,z) csF bsF):
 z=0/\(ok=true->vq fr t csF/\ic csF i3 fN/\cj csF)/\(ok=false->False):=by
 obtain⟨T',f',hC,hq,hql,hle,hold,hf0,-⟩:=h.put (bA t) (gQ hm)
 obtain⟨hge,hnw⟩:=nF cs.length (bA t) ⟨cs,[]⟩ aC (fun y hy=>by cases hy)
 have hx:=au hl2
 generalize cs[i2]=x at hx
 have xk:x.k=1:=Classical.byContradiction fun hn=>by
  have:=h.comp i2 x hx hn
  rw[h2]at this
  injection this with e
  exact hn e.symm
 have xt:=(h.free i2 x hx).1
 have xa:=(h.var i2 x hx xk).1
 obtain⟨n0,e0,e1⟩:=hfr i2 x hx xk
 rw[h2]at e0
 injection e0 with _ e0
 subst e0
 obtain⟨c3,hc3,k3,n3,s3,t3,a3,-⟩:=h.arg hl3 h3 (by decide)
 have a3':c3.args=[]:=List.map_eq_nil_iff.1 a3
 have hne:i3≠i2:=fun e=>by
  rw[e,hx]at hc3
  injection hc3 with e
  rw[e,k3]at xk
  cases xk
 obtain⟨k,n,s,l,hnt⟩:∃k n s l,bA t=.mk k n s l:=by
  cases bA t
  exact⟨_,_,_,_,rfl⟩
 have hk':k≠1:=by
  have:=Df t hm
  rw[hnt]at this
  exact fun e=>hk (this.symm.trans e)
 obtain⟨y,hy,yk,yn,ys,yt,-,-⟩:=hC.arg hql (hq.trans hnt) hk'
 obtain⟨e2,e3,-⟩:=Ci ((hold i2 hl2).trans hx) xt xk hy yt (by rw[yk];exact hk') hu
 injection e2 with e2 e4
 subst e2 e3 e4
 have hgot:=(zZ hC (bA t) _ hql hq).above (cs':=cP (aV (bA t) ⟨cs,[]⟩).2.cs i2 x (some (aV (bA t) ⟨cs,[]⟩).1)) (N:=cs.length) (fun j hj=>dg _ _ (by omega)) (fun j c hj hc=>⟨(hC.free j c hc).1,hnw.new j c hj hc⟩) hge
 have hvn:cj (cP (aV (bA t) ⟨cs,[]⟩).2.cs i2 x (some (aV (bA t) ⟨cs,[]⟩).1)):=fun i c hc hk=>by
  by_cases hi:i=i2
  ·subst hi
   rw[eF ((hold i hl2).trans hx)]at hc
   injection hc with hc
   subst hc
   exact xa
  ·rw[dg _ _ hi]at hc
   exact hC.vnil i c hc hk
 have hmn:=gQ hm
 have hin:∀m,m∈dP (bA t)->m∈dP (T' (aV (bA t) ⟨cs,[]⟩).1):=fun m h=>by rw[hq];exact h
 have hl9:=(iJ (bA t) ⟨cs,[]⟩ (fun y hy=>by cases hy)).1.le
 rw[d6 hm]at hl9
 refine⟨rfl,fun _=>⟨⟨i2,fd f' (bA t),by rw[mg,e1];rfl,hgot.step (eF ((hold i2 hl2).trans hx) _) rfl,hvn,me f' hf0 _ hmn,fun n hn=>?_,by rw[jZ,d6 hm],?_⟩,?_,hvn⟩,fun e=>(by cases e)⟩
 ·obtain⟨m,hm1,rfl⟩:=tu f' (bA t) n hn
  have:=hC.nonneg hql m (hin m hm1)
  simp only at hl9
  unfold fP
  omega
 ·rw[nt hmn fun p hp q hq'=>hC.inj hql hql p (hin p hp) q (hin q hq'),Cs hm]
 ·exact qT ((dg _ _ hne).trans ((hold i3 hl3).trans hc3)) t3 k3 n3 s3 a3'
end
variable[Base]
section
variable {w0 W:World} {rb mb db ob:Nat} {r:RC} {X:TV} {t:Tm} {txt:List UInt8}
theorem zY (hN:ig W rb mb db ob aj 1 r) (hb:aE w0 W) (hvb:w0.heap.size<=r.vb) (hX:aI W (aR W 27) X (du t eZ)) (hm:t.may=true) (hf:t.fits=true) (hsz:t.size<=900) (hk:t.k≠1) (hPut:wm w0 ob (bA t) txt):
 Calls prog 40 #[ah rb,aU X] W fun e w'=>e=am/\fY (fun l=>t≠eZ->l=[(3,txt)]) w0 rb mb db ob w':=by
 refine(ot (N:=t≠eZ) (F:=fun _=>t=eZ) (evA:=(1,[116,114,117,101])) hN hb hvb hX hm hf hsz hk (by decide) (by simp[eZ,dP,gm]) rfl hPut (fun T f i2 i3 hC _ h2 h3 hl2 hl3 ok z csF bsF hu=>t7 hC h2 h3 hl2 hl3 hm hk hu) fun w r2 csF ys cv bv xs h1 h2 h3 h4 h5 h6=>?_).mono ?_
 ·exact(sr w rb r2 [] db ob 2 [] h1 (h2.2.2.1.trans hN.nm) (h2.2.2.2.1.trans hN.ans) (h2.2.2.2.2.1.trans hN.most) (by simp)).mono fun e u' h=>h
 ·rintro e w' ⟨rfl,r',h1,B,spent,evs,hg,h2,h3,h4,h5⟩
  refine⟨rfl,r',h1,B,spent,evs,fun hn=>?_,h2,h3,h4,h5⟩
  rcases hg with⟨-,rfl⟩|⟨⟨-,e⟩,-⟩
  ·rfl
  ·exact absurd e hn
theorem CC {An:Option Addr} {cn:Nat} (hN:ig W rb mb db ob (.slice An 1 cn) 1 r) (hb:aE w0 W) (hvb:w0.heap.size<=r.vb) (hX:aI W (aR W 27) X (du t qi)) (hNm:cO w0 An [([88],99999)]) (hm:t.may=true) (hf:t.fits=true) (hsz:t.size<=900) (hk:t.k≠1) (htl:txt.length<=100000000) (hPut:wm w0 ob (bA t) txt):
 Calls prog 40 #[ah rb,aU X] W fun e w'=>e=am/\fY (fun l=>l=[(1,gS txt)]) w0 rb mb db ob w':=by
 have hfew:(cH (du t qi)).2.cs.length<=2000:=Nat.le_trans (pT _) (by simp[du,fO,fN,qi,Tm.size,Tm.sizes];omega)
 refine(ot (N:=False) (F:=vq (cH (du t qi)).2.fr t) (evA:=(1,gS txt)) hN hb hvb hX hm hf hsz hk (by decide) (by simp[qi,dP,gm,fP]) rfl hPut (fun T f i2 i3 hC hfr h2 h3 hl2 hl3 ok z csF bsF hu=>xP hC hfr hfew h2 h3 hl2 hl3 hm (by omega) hk hu) fun w r2 csF ys cv bv xs h1 h2 ⟨m,h3,h3'⟩ h4 ⟨i,b,g1,g2,g3,g4,g5,g6,g7⟩ h6=>?_).mono ?_
 ·have hv:M6 w r2.vb m:=by rw[h2.2.1];exact h3
  rw[<-h2.1]at h4
  refine(Bl (txt:=txt) h1 (h2.2.2.1.trans hN.nm) (hNm.keep fun b hb=>h6.block hb (by decide)) ⟨by omega,by omega⟩ hv ((h3' 99999).trans g1) h4 g3 g2 g4 g5 (by omega) (by rw[h2.2.2.2.1,hN.ans];omega) (by simp) htl (fun w' z hw hz=>hPut w' z (h6.trans (TF.of_below _ hw)) (g7▸hz))).mono ?_
  rintro e u' ⟨rfl,v,j1,j2⟩
  rw[h2.2.2.2.1,h2.2.2.2.2.1,hN.ans,hN.most]at*
  exact⟨rfl,v,j1,j2⟩
 ·rintro e w' ⟨rfl,r',h1,B,spent,evs,hg,h2,h3,h4,h5⟩
  refine⟨rfl,r',h1,B,spent,evs,?_,h2,h3,h4,h5⟩
  rcases hg with⟨hn,-⟩|⟨-,e⟩
  ·exact hn.elim
  ·exact e
end
end
section
open Go.RowKit Go.Maps
theorem kA (es:List (dh×dv)) (way:Int):∀n,jB es way n
 |0=>fun _ _ _ _ _ _ _ _ t _ h _ _ _ _=>by have:=bL t;omega
 |n+1=>AR (Ag (kA es way n))
def lV (es:List (dh×dv)) (way:Int) (t:Tm):List UInt8×Int:=
 if¬(way=0\/way=1\/way=2)then([],2)else if dG t=0 then(gM es way t 1200,0)else([],dG t)
theorem mY {t:Tm} (h:dG t=0):t.may=true/\t.deep<=2000/\t.size<=20000:=by
 unfold dG at h
 split at h
 ·cases h
 ·split at h
  ·cases h
  ·split at h
   ·cases h
   ·rename_i h1 h2 h3
    exact⟨by simpa using h1,by omega,by omega⟩
structure Ez (u:World):Prop where
 kinds:bR u
 pow:fk u
 bits:u.cell? (ak 6 15)=some (.int .u8 4)
theorem Ez.later {u u':World} (h:Ez u) (hb:aE u u'):Ez u':=
 ⟨h.kinds.later hb,h.pow.later hb,(hb.cell (p:=(ak 6 15)) (World.block_lt_of_cell? u _ h.bits)).trans h.bits⟩
theorem rp (u:World) (x:TV) (t:Tm) (bt bm:Nat) (es:List (dh×dv)) (way:Int) (hx:aO u u.heap.size x t) (hfit:t.fits=true) (hsz:t.size<=10000000) (hdp:t.deep<=10000000) (hT:Ez u) (hTab:cm u bt bm es):
 Calls prog 16 #[aU x,ae way,ah bt] u fun e u'=>e=.returned (.tuple #[.string ⟨(lV es way t).1.toArray⟩,ae (lV es way t).2])/\aE u u':=by
 obtain⟨R,hR⟩:∃R,R=lV es way t:=⟨_,rfl⟩
 rw[<-hR]
 have HR:=ad hR
 obtain⟨W,hW⟩:∃W,W=u.alloc (.cells #[ae x.k,ae x.n,af x.s,.slice x.A x.len x.cap] 27):=⟨_,rfl⟩
 have hbW:aE u W:=by rw[hW];exact aB
 have hx0:W.heap[u.heap.size]?=some (.cells #[ae x.k,ae x.n,af x.s,.slice x.A x.len x.cap] 27 (0,0)):=by rw[hW];exact az
 obtain⟨q,hq⟩:∃q,q=u.heap.size:=⟨_,rfl⟩
 rw[<-hq]at hx0
 have HX:Hid (aO W q x t):=ad (by rw[hq];exact hx.blw hbW)
 have HB:=ad hbW
 have HX0:=ad hx0
 have HFIT:=ad (aD hfit (aD hsz hdp))
 have HT:=ad (hT.later hbW)
 have HTAB:=ad (hTab.later hbW)
 have HQ:=ad hq
 have hqW:q<W.heap.size:=(ap hx0).1
 have hck:=cY W x t ((HX.out).up (Nat.le_of_lt hqW)) hsz hdp
 obtain⟨E,hE⟩:∃E,E=dG t:=⟨_,rfl⟩
 rw[<-hE]at hck
 have HE:=ad hE
 rw[aN]at hck⊢
 have HCK:=ad hck
 obtain⟨f0,f1,f2,f3,-⟩:=aH hx0
 clear hR hx hfit hsz hdp hT hTab hbW hx0 hck hE
 by_cases hway:way=0\/way=1\/way=2
 ·by_cases hE0:E=0
  ·have b4:(E !=0)=false:=by rw[hE0];rfl
   have HE0:=ad hE0
   clear hE0
   rcases hway with rfl|rfl|rfl
   ·go_enter func16,ntmps16
    go_upto_region 1 with fail
    rw[<-hW,<-hq]
    clear hW hq
    go_wp2_with fail
    refine HCK.mono ?_
    rintro e W1 ⟨rfl,hb1⟩
    have HX1:=ad ((hb1.block q hqW).trans HX0.out)
    have HB1:=ad (HB.trans (hb1.mono HB.size))
    have hM:=mY (HE.symm.trans HE0.out)
    have hR1:R=(gM es 0 t 1200,0):=by rw[HR.out];unfold lV;rw[if_neg (by decide),if_pos (HE.symm.trans HE0.out)]
    have HR1:=ad hR1
    have hT1:=HT.later hb1
    have hTab1:=HTAB.later hb1
    have hXX:aO W1 W1.heap.size x t:=(HX.blw (hb1.mono (Nat.le_of_lt hqW))).up (by have:=hb1.size;omega)
    obtain⟨wb,hwb⟩:∃wb,wb=W1.heap.size:=⟨_,rfl⟩
    obtain⟨U,hU⟩:∃U,U=W1.alloc (.cells #[aj,ae 0,ah bt,.func (.func 27) #[ah wb] #[]] 79):=⟨_,rfl⟩
    have hbU:aE W1 U:=by rw[hU];exact aB
    have hu0:U.heap[wb]?=some (.cells #[aj,ae 0,ah bt,gj wb] 79 (0,0)):=by rw[hU,hwb];exact az
    have hU2:=hT1.later hbU
    have hqx:q<wb:=by have:=hb1.size;omega
    have HKU:Hid (jn U wb (wb+1) wb bt bm es 0 []):=ad (by
     refine⟨⟨⟨none,0,hu0,aS.nil _ _ _ _ _⟩,Nat.lt_succ_self _⟩,⟨hTab1.later hbU,hU2.kinds,hU2.pow,hU2.bits⟩,⟨?_,?_,?_,?_,?_⟩,aC,?_⟩
     ·rw[hwb];exact hTab1.lt
     ·rw[hwb];exact hTab1.map.lt
     ·rw[hwb];exact hT1.kinds.lt
     ·rw[hwb];exact hT1.pow.lt
     ·rw[hwb];exact World.block_lt_of_cell? W1 _ hT1.bits
     ·have:=(ap hu0).1;omega)
    have HXU:Hid (aO U wb x t):=ad (by rw[hwb];exact hXX.blw hbU)
    have HBU:=ad (HB1.trans (hbU.mono HB1.size))
    have HX2:=ad ((hbU.block q (by omega)).trans HX1.out)
    have HSZ:Hid (u.heap.size<=wb/\u.heap.size<=U.heap.size):=ad ⟨by have:=HQ.out;omega,HBU.size⟩
    have HTC:Hid (Calls prog 28 #[ah wb,.agg #[ae x.k,ae x.n,af x.s,.slice x.A x.len x.cap],ae 1200] U fun e u'=>e=am/\cw u' (wb+1) wb bt 0 ([]++gM es 0 t 1200)/\Fr (bJ U (wb+1) wb) U u'):=ad (by
     rw[<-aN]
     exact kA es 0 t.size U wb (wb+1) wb bt bm [] x t 1200 aC ⟨hM.1,HFIT.1⟩ HXU.out HKU.out (by have:=hM.2.2;simp only[List.length_nil];omega))
    clear f0 f1 f2 f3 hb1 hM hR1 hT1 hTab1 hXX hbU hu0 hU2
    obtain⟨f0,f1,f2,f3,-⟩:=aH HX1.out
    go_upto_region 10 with fail
    rw[<-hwb,<-hU]
    clear hU hwb f0 f1 f2 f3
    obtain⟨f0,f1,f2,f3,-⟩:=aH HX2.out
    go_wp2_with fail
    refine HTC.mono ?_
    rintro e W3 ⟨rfl,h1,h2⟩
    have hBF:aE u W3:=HBU.trans (bJ.below h2 HSZ.1 (by have:=HSZ.1;omega) HSZ.2)
    have HBF:=ad hBF
    obtain⟨A9,c9,hb9,hr9⟩:=h1.blk
    rw[List.nil_append]at hb9 hr9
    have c0:W3.cell? (ak wb 0)=some (.slice A9 (gM es 0 t 1200).length c9):=by rw[cell_of_row W3 wb 0 _ _ (0,0) hb9];rfl
    have hcv:=aS.string underlying76 underlying5 underlying9 hr9
    clear hBF h1 h2 hb9 hr9 f0 f1 f2 f3
    generalize gM es 0 t 1200=txt at*
    go_wp2_with fail
    go_ret2
    exact⟨by rw[HR1.out];rfl,HBF.out⟩
   ·go_enter func16,ntmps16
    go_upto_region 1 with fail
    rw[<-hW,<-hq]
    clear hW hq
    go_wp2_with fail
    refine HCK.mono ?_
    rintro e W1 ⟨rfl,hb1⟩
    have HX1:=ad ((hb1.block q hqW).trans HX0.out)
    have HB1:=ad (HB.trans (hb1.mono HB.size))
    have hM:=mY (HE.symm.trans HE0.out)
    have hR1:R=(gM es 1 t 1200,0):=by rw[HR.out];unfold lV;rw[if_neg (by decide),if_pos (HE.symm.trans HE0.out)]
    have HR1:=ad hR1
    have hT1:=HT.later hb1
    have hTab1:=HTAB.later hb1
    have hXX:aO W1 W1.heap.size x t:=(HX.blw (hb1.mono (Nat.le_of_lt hqW))).up (by have:=hb1.size;omega)
    obtain⟨wb,hwb⟩:∃wb,wb=W1.heap.size:=⟨_,rfl⟩
    obtain⟨U,hU⟩:∃U,U=W1.alloc (.cells #[aj,ae 1,ah bt,.func (.func 27) #[ah wb] #[]] 79):=⟨_,rfl⟩
    have hbU:aE W1 U:=by rw[hU];exact aB
    have hu0:U.heap[wb]?=some (.cells #[aj,ae 1,ah bt,gj wb] 79 (0,0)):=by rw[hU,hwb];exact az
    have hU2:=hT1.later hbU
    have hqx:q<wb:=by have:=hb1.size;omega
    have HKU:Hid (jn U wb (wb+1) wb bt bm es 1 []):=ad (by
     refine⟨⟨⟨none,0,hu0,aS.nil _ _ _ _ _⟩,Nat.lt_succ_self _⟩,⟨hTab1.later hbU,hU2.kinds,hU2.pow,hU2.bits⟩,⟨?_,?_,?_,?_,?_⟩,aC,?_⟩
     ·rw[hwb];exact hTab1.lt
     ·rw[hwb];exact hTab1.map.lt
     ·rw[hwb];exact hT1.kinds.lt
     ·rw[hwb];exact hT1.pow.lt
     ·rw[hwb];exact World.block_lt_of_cell? W1 _ hT1.bits
     ·have:=(ap hu0).1;omega)
    have HXU:Hid (aO U wb x t):=ad (by rw[hwb];exact hXX.blw hbU)
    have HBU:=ad (HB1.trans (hbU.mono HB1.size))
    have HX2:=ad ((hbU.block q (by omega)).trans HX1.out)
    have HSZ:Hid (u.heap.size<=wb/\u.heap.size<=U.heap.size):=ad ⟨by have:=HQ.out;omega,HBU.size⟩
    have HTC:Hid (Calls prog 28 #[ah wb,.agg #[ae x.k,ae x.n,af x.s,.slice x.A x.len x.cap],ae 1200] U fun e u'=>e=am/\cw u' (wb+1) wb bt 1 ([]++gM es 1 t 1200)/\Fr (bJ U (wb+1) wb) U u'):=ad (by
     rw[<-aN]
     exact kA es 1 t.size U wb (wb+1) wb bt bm [] x t 1200 aC ⟨hM.1,HFIT.1⟩ HXU.out HKU.out (by have:=hM.2.2;simp only[List.length_nil];omega))
    clear f0 f1 f2 f3 hb1 hM hR1 hT1 hTab1 hXX hbU hu0 hU2
    obtain⟨f0,f1,f2,f3,-⟩:=aH HX1.out
    go_upto_region 10 with fail
    rw[<-hwb,<-hU]
    clear hU hwb f0 f1 f2 f3
    obtain⟨f0,f1,f2,f3,-⟩:=aH HX2.out
    go_wp2_with fail
    refine HTC.mono ?_
    rintro e W3 ⟨rfl,h1,h2⟩
    have hBF:aE u W3:=HBU.trans (bJ.below h2 HSZ.1 (by have:=HSZ.1;omega) HSZ.2)
    have HBF:=ad hBF
    obtain⟨A9,c9,hb9,hr9⟩:=h1.blk
    rw[List.nil_append]at hb9 hr9
    have c0:W3.cell? (ak wb 0)=some (.slice A9 (gM es 1 t 1200).length c9):=by rw[cell_of_row W3 wb 0 _ _ (0,0) hb9];rfl
    have hcv:=aS.string underlying76 underlying5 underlying9 hr9
    clear hBF h1 h2 hb9 hr9 f0 f1 f2 f3
    generalize gM es 1 t 1200=txt at*
    go_wp2_with fail
    go_ret2
    exact⟨by rw[HR1.out];rfl,HBF.out⟩
   ·go_enter func16,ntmps16
    go_upto_region 1 with fail
    rw[<-hW,<-hq]
    clear hW hq
    go_wp2_with fail
    refine HCK.mono ?_
    rintro e W1 ⟨rfl,hb1⟩
    have HX1:=ad ((hb1.block q hqW).trans HX0.out)
    have HB1:=ad (HB.trans (hb1.mono HB.size))
    have hM:=mY (HE.symm.trans HE0.out)
    have hR1:R=(gM es 2 t 1200,0):=by rw[HR.out];unfold lV;rw[if_neg (by decide),if_pos (HE.symm.trans HE0.out)]
    have HR1:=ad hR1
    have hT1:=HT.later hb1
    have hTab1:=HTAB.later hb1
    have hXX:aO W1 W1.heap.size x t:=(HX.blw (hb1.mono (Nat.le_of_lt hqW))).up (by have:=hb1.size;omega)
    obtain⟨wb,hwb⟩:∃wb,wb=W1.heap.size:=⟨_,rfl⟩
    obtain⟨U,hU⟩:∃U,U=W1.alloc (.cells #[aj,ae 2,ah bt,.func (.func 27) #[ah wb] #[]] 79):=⟨_,rfl⟩
    have hbU:aE W1 U:=by rw[hU];exact aB
    have hu0:U.heap[wb]?=some (.cells #[aj,ae 2,ah bt,gj wb] 79 (0,0)):=by rw[hU,hwb];exact az
    have hU2:=hT1.later hbU
    have hqx:q<wb:=by have:=hb1.size;omega
    have HKU:Hid (jn U wb (wb+1) wb bt bm es 2 []):=ad (by
     refine⟨⟨⟨none,0,hu0,aS.nil _ _ _ _ _⟩,Nat.lt_succ_self _⟩,⟨hTab1.later hbU,hU2.kinds,hU2.pow,hU2.bits⟩,⟨?_,?_,?_,?_,?_⟩,aC,?_⟩
     ·rw[hwb];exact hTab1.lt
     ·rw[hwb];exact hTab1.map.lt
     ·rw[hwb];exact hT1.kinds.lt
     ·rw[hwb];exact hT1.pow.lt
     ·rw[hwb];exact World.block_lt_of_cell? W1 _ hT1.bits
     ·have:=(ap hu0).1;omega)
    have HXU:Hid (aO U wb x t):=ad (by rw[hwb];exact hXX.blw hbU)
    have HBU:=ad (HB1.trans (hbU.mono HB1.size))
    have HX2:=ad ((hbU.block q (by omega)).trans HX1.out)
    have HSZ:Hid (u.heap.size<=wb/\u.heap.size<=U.heap.size):=ad ⟨by have:=HQ.out;omega,HBU.size⟩
    have HTC:Hid (Calls prog 28 #[ah wb,.agg #[ae x.k,ae x.n,af x.s,.slice x.A x.len x.cap],ae 1200] U fun e u'=>e=am/\cw u' (wb+1) wb bt 2 ([]++gM es 2 t 1200)/\Fr (bJ U (wb+1) wb) U u'):=ad (by
     rw[<-aN]
     exact kA es 2 t.size U wb (wb+1) wb bt bm [] x t 1200 aC ⟨hM.1,HFIT.1⟩ HXU.out HKU.out (by have:=hM.2.2;simp only[List.length_nil];omega))
    clear f0 f1 f2 f3 hb1 hM hR1 hT1 hTab1 hXX hbU hu0 hU2
    obtain⟨f0,f1,f2,f3,-⟩:=aH HX1.out
    go_upto_region 10 with fail
    rw[<-hwb,<-hU]
    clear hU hwb f0 f1 f2 f3
    obtain⟨f0,f1,f2,f3,-⟩:=aH HX2.out
    go_wp2_with fail
    refine HTC.mono ?_
    rintro e W3 ⟨rfl,h1,h2⟩
    have hBF:aE u W3:=HBU.trans (bJ.below h2 HSZ.1 (by have:=HSZ.1;omega) HSZ.2)
    have HBF:=ad hBF
    obtain⟨A9,c9,hb9,hr9⟩:=h1.blk
    rw[List.nil_append]at hb9 hr9
    have c0:W3.cell? (ak wb 0)=some (.slice A9 (gM es 2 t 1200).length c9):=by rw[cell_of_row W3 wb 0 _ _ (0,0) hb9];rfl
    have hcv:=aS.string underlying76 underlying5 underlying9 hr9
    clear hBF h1 h2 hb9 hr9 f0 f1 f2 f3
    generalize gM es 2 t 1200=txt at*
    go_wp2_with fail
    go_ret2
    exact⟨by rw[HR1.out];rfl,HBF.out⟩
  ·have b4:(E !=0)=true:=bne_iff_ne.2 hE0
   have HE0:=ad hE0
   clear hE0
   rcases hway with rfl|rfl|rfl
   ·go_enter func16,ntmps16
    go_upto_region 1 with fail
    rw[<-hW,<-hq]
    clear hW hq
    go_wp2_with fail
    refine HCK.mono ?_
    rintro e W1 ⟨rfl,hb1⟩
    have HB1:=ad (HB.trans (hb1.mono HB.size))
    have HR1:Hid (R=([],E)):=ad (by rw[HR.out];unfold lV;rw[if_neg (by decide),if_neg (by rw[<-HE.out];exact HE0.out),HE.out])
    clear f0 f1 f2 f3 hb1
    go_wp2_with fail
    go_ret2
    exact⟨by rw[HR1.out];rfl,HB1.out⟩
   ·go_enter func16,ntmps16
    go_upto_region 1 with fail
    rw[<-hW,<-hq]
    clear hW hq
    go_wp2_with fail
    refine HCK.mono ?_
    rintro e W1 ⟨rfl,hb1⟩
    have HB1:=ad (HB.trans (hb1.mono HB.size))
    have HR1:Hid (R=([],E)):=ad (by rw[HR.out];unfold lV;rw[if_neg (by decide),if_neg (by rw[<-HE.out];exact HE0.out),HE.out])
    clear f0 f1 f2 f3 hb1
    go_wp2_with fail
    go_ret2
    exact⟨by rw[HR1.out];rfl,HB1.out⟩
   ·go_enter func16,ntmps16
    go_upto_region 1 with fail
    rw[<-hW,<-hq]
    clear hW hq
    go_wp2_with fail
    refine HCK.mono ?_
    rintro e W1 ⟨rfl,hb1⟩
    have HB1:=ad (HB.trans (hb1.mono HB.size))
    have HR1:Hid (R=([],E)):=ad (by rw[HR.out];unfold lV;rw[if_neg (by decide),if_neg (by rw[<-HE.out];exact HE0.out),HE.out])
    clear f0 f1 f2 f3 hb1
    go_wp2_with fail
    go_ret2
    exact⟨by rw[HR1.out];rfl,HB1.out⟩
 ·have HR1:Hid (R=([],2)):=ad (by rw[HR.out];unfold lV;rw[if_pos hway])
  have b1:(way !=0)=true:=bne_iff_ne.2 fun e=>hway (.inl e)
  have b2:(way !=1)=true:=bne_iff_ne.2 fun e=>hway (.inr (.inl e))
  have b3:(way !=2)=true:=bne_iff_ne.2 fun e=>hway (.inr (.inr e))
  have b1':(way==0)=false:=beq_eq_false_iff_ne.2 fun e=>hway (.inl e)
  have b2':(way==1)=false:=beq_eq_false_iff_ne.2 fun e=>hway (.inr (.inl e))
  have b3':(way==2)=false:=beq_eq_false_iff_ne.2 fun e=>hway (.inr (.inr e))
  clear hway
  go_enter func16,ntmps16
  go_upto_region 1 with fail
  rw[<-hW,<-hq]
  clear hW hq
  go_wp2_with fail
  go_ret2
  exact⟨by rw[HR1.out];rfl,HB.out⟩
structure ms (w:World):Prop where
 env:mO w
 pow:fk w
 bits:w.cell? (ak 6 15)=some (.int .u8 4)
theorem ms.later {w w':World} (h:ms w) (hb:aE w w'):ms w':=
 ⟨h.env.later hb,h.pow.later hb,(hb.cell (p:=(ak 6 15)) (World.block_lt_of_cell? w _ h.bits)).trans h.bits⟩
theorem ms.wr {w:World} (h:ms w):Ez w:=⟨h.env.kinds,h.pow,h.bits⟩
def ua (t:Tm):List UInt8:=gM dI 1 (bA t) 1200
section
variable {t:Tm}
theorem vC (hm:t.may=true) (hs:t.size<=2000):lV dI 1 (bA t)=(ua t,0):=by
 unfold lV
 rw[if_neg (by simp),if_pos (ew (gQ hm) (by rw[d6 hm];exact hs))]
 rfl
theorem uJ (hm:t.may=true) (hf:t.fits=true) (hs:t.size<=2000):(ua t).length<=100000000:=by
 have:=fZ dI 1 _ (bA t) 1200 aC ⟨gQ hm,nB hm hf hs⟩
 rw[d6 hm]at this
 unfold ua
 omega
theorem Bv (w:World) (hE:ms w) (x:TV) (hx:aI w (aR w 27) x t) (hm:t.may=true) (hf:t.fits=true) (hs:t.size<=2000):
 Calls prog 7 #[aU x] w fun e w'=>e=.returned (af (ua t))/\aE w w':=by
 obtain⟨k,n,s,A,l,c⟩:=x
 obtain⟨U,hU⟩:∃U,U=w.alloc (.cells #[ae k,ae n,af s,.slice A l c] 27):=⟨_,rfl⟩
 have hb:aE w U:=by rw[hU];exact aB
 have hz:U.heap[w.heap.size]?=some (.cells #[ae k,ae n,af s,.slice A l c] 27 (0,0)):=by rw[hU];exact az
 obtain⟨y0,y1,y2,y3,-⟩:=aH hz
 have HB:=ad hb
 have HE:=ad (hE.later hb)
 have HX:=ad (aD (hx.at fun b h=>h.lt) (aD hm (aD hf hs)))
 clear hb hz hE hx hm hf hs
 unfold aU
 go_enter func7,ntmps7
 go_upto_region 1 with fail
 rw[<-hU]
 clear hU
 go_wp2_with fail
 refine(qE U w.heap.size ⟨k,n,s,A,l,c⟩ t (HX.1.blw HB.out) HX.2.1 HX.2.2.1 (by have:=HX.2.2.2;omega) HB.size).mono ?_
 rintro e w1 ⟨⟨zk,zn,zs,zA,zl,zc⟩,rfl,hz,hb1⟩
 rw[(qr t [] HX.2.1).1]at hz
 have HZ:=ad hz
 have HB1:=ad (aD hb1 (HB.trans (hb1.mono HB.size)))
 have HE1:=ad (HE.later hb1)
 clear hz hb1 y0 y1 y2 y3 HE
 unfold aU
 go_wp2_with fail
 refine(mM w1 HE1.env.kinds HE1.env.tab).mono ?_
 rintro e w2 ⟨bt,bm,rfl,hT,-,-,-,hb2,-⟩
 have hP:=rp w2 ⟨zk,zn,zs,zA,zl,zc⟩ (bA t) bt bm dI 1 (((HZ.at (B:=w1.heap.size) fun b h=>h.2.lt).blw hb2).up hb2.size) (nB HX.2.1 HX.2.2.1 HX.2.2.2) (by rw[d6 HX.2.1];have:=HX.2.2.2;omega) (by have:=cV (bA t);rw[d6 HX.2.1]at this;have:=HX.2.2.2;omega) (HE1.later hb2).wr hT
 rw[vC HX.2.1 HX.2.2.2]at hP
 have HP:=ad hP
 have HB2:=ad (HB1.2.trans (hb2.mono HB1.2.size))
 clear hP hT hb2
 unfold aU at HP
 go_wp2_with fail
 refine HP.mono ?_
 rintro e w3 ⟨rfl,hb3⟩
 have HB3:=ad (HB2.trans (hb3.mono HB2.size))
 clear hb3 HP
 go_wp2_with fail
 go_ret
 exact⟨rfl,HB3.out⟩
end
theorem zO (w:World) (s:List UInt8):Calls prog 10 #[af s] w fun e w'=>e=.returned (.agg #[ae 3,ae 0,af s,aj])/\aE w w':=by
 go_enter func10,ntmps10
 go_wp2_with fail
 refine bodyPost_ret (v:=.agg #[ae 3,ae 0,af s,aj]) (by simp[results,results10,go_sem]) rfl ⟨rfl,?_⟩
 exact aB
theorem El (w:World) (n:Int):Calls prog 11 #[ae n] w fun e w'=>e=.returned (.agg #[ae 1,ae n,ai,aj])/\aE w w':=by
 go_enter func11,ntmps11
 go_wp2_with fail
 refine bodyPost_ret (v:=.agg #[ae 1,ae n,ai,aj]) (by simp[results,results11,go_sem]) rfl ⟨rfl,?_⟩
 exact aB
section
variable[Base]
theorem EJ {w:World} {ob:Nat} {t:Tm} (hE:jO w) (hp:fk w) (hb:w.cell? (ak 6 15)=some (.int .u8 4)) (h1:4<Base.b) (h2:6<Base.b) (hO:Ev w ob) (hm:t.may=true) (hf:t.fits=true) (hs:t.size<=2000):wm w ob (bA t) (ua t):=fun u z hu hz=>by
 obtain⟨bm,hT,-⟩:=hO.tf hu (by decide)
 have hl:=hu.low hE.le aC
 have hP:=rp u z (bA t) ob bm dI 1 (hz.at fun b h=>h.lt) (nB hm hf hs) (by rw[d6 hm];omega) (by have:=cV (bA t);rw[d6 hm]at this;omega) ⟨(hE.tf hu).env.kinds,hp.keep (hl.block _ h1),(World.cell?_of_block (a:=⟨6,15,none⟩) (hl.block _ h2)).trans hb⟩ hT
 rw[vC hm hs]at hP
 exact hP
end
theorem qd {g t:Tm} {names:List (List UInt8×Int)} {G:List (Int×List UInt8)->Prop} (w:World) (hE:ms w) (x:TV) (A:Option Addr) (c:Nat) (hx:aI w (aR w 27) x g) (hgm:g.may=true) (hgs:g.size<=2000) (hn:cO w A names) (hnl:names.length<=1000) (hm:t.may=true) (hf:t.fits=true) (hs:t.size<=2000)
 (hrun:∀(_B:Base) (w0 W:World) (rb mb db ob:Nat) (r:RC),ig W rb mb db ob (.slice A names.length c) 1 r->aE w0 W->w0.heap.size<=r.vb->aI W (aR W 27) x g->cO w0 A names->wm w0 ob (bA t) (ua t)->Calls prog 40 #[ah rb,aU x] W fun e w'=>e=am/\fY G w0 rb mb db ob w'):
 Calls prog 8 #[ai,aU x,.slice A names.length c,ae 1] w fun e w'=>∃v lim B evs,e=.returned (.tuple #[v,.bool lim])/\(G evs/\evs.length<=100000/\aS w' B 31 2 kP v evs)/\aE w w':=by
 letI:Base:=⟨w.heap.size⟩
 obtain⟨mx,hmx⟩:=hE.env.max
 have hB:jO w:=⟨hE.env,hE.env.kinds.lt,kI hE.env.tab,World.block_lt_of_cell? w _ hmx,aC⟩
 refine(lG w hB [] 0 (.inl rfl) (by rw[zj];exact CB) x A names.length c 1 (fun v over u=>∃B evs,G evs/\evs.length<=100000/\aS u B 31 2 kP v evs) (fun v over u u' ⟨B,evs,h1,h2,h3⟩ hb=>⟨B,evs,h1,h2,h3.later hb⟩) fun w0 W mb db dmb ob hW hmb hM hL hO=>?_).mono ?_
 ·refine(uH W mb db ob x g A c names 1 (EF G W mb db ob) hM (hx.keep (fun b hb=>hb.keep (hW.block b hb.lt)) fun b hb=>hW.block b hb.lt) hgm hgs (hn.later hW) hnl (by decide) hmb fun W2 rb r h1 h2 h3 h4=>?_).mono ?_
  ·exact hrun _ W W2 rb mb db ob r h4 h1 h3 (hx.keep (fun b hb=>hb.keep ((hW.trans (h1.mono hW.size)).block b hb.lt)) fun b hb=>(hW.trans (h1.mono hW.size)).block b hb.lt) (hn.later hW) (EJ (hB.later hW) (hE.later hW).pow (hE.later hW).bits hE.pow.lt (World.block_lt_of_cell? w _ hE.bits) hO hm hf hs)
  ·rintro e w' ⟨v,rfl,B,spent,evs,j1,j2,j3,j4,j5⟩
   exact⟨v,spent,[],rfl,j4,j5,B,evs,j1,j2,j3⟩
 ·rintro e w' ⟨v,over,rfl,⟨B,evs,h1,h2,h3⟩,h4⟩
  exact⟨v,_,B,evs,rfl,⟨h1,h2,h3⟩,h4.low aC aC⟩
end
section
open Go.RowKit Go.Maps
structure rG (w:World) (b3:Nat) (X:TV) (t:Tm) (u:World):Prop where
 env:ms u
 hx:aI u (aR u 27) X t
 bx:u.heap[b3]?=some (.cells #[ae X.k,ae X.n,af X.s,.slice X.A X.len X.cap] 27 (0,0))
 low:aE w u
theorem rG.later {w u u':World} {b3:Nat} {X:TV} {t:Tm} (h:rG w b3 X t u) (hb:aE u u'):rG w b3 X t u':=
 ⟨h.env.later hb,h.hx.keep (fun b hk=>hk.keep (hb.block b hk.lt)) fun b hk=>hb.block b hk.lt,(hb.block _ (ap h.bx).1).trans h.bx,h.low.trans (hb.mono h.low.size)⟩
theorem kh.later {w w':World} {A:Option Addr} {l:List (Int×List UInt8)} (h:kh w A l) (hb:aE w w'):kh w' A l:=fun q x hx=>by
 obtain⟨g,off,e,k1,k2⟩:=h q x hx
 exact⟨g,off,e,(hb.cell (p:=(ak g (off+q*2))) (World.block_lt_of_cell? w _ k1)).trans k1,(hb.cell (p:=(ak g (off+q*2+1))) (World.block_lt_of_cell? w _ k2)).trans k2⟩
theorem yO {w:World} {g:Nat} {k:Int} {s:List UInt8} (h:w.heap[g]?=some (.cells #[ae k,af s] 31 (0,0))):kh w (some (ak g 0)) [(k,s)]:=fun q x hq=>by
 match q,hq with
 |0,hq=>
  injection hq with hq
  subst hq
  exact⟨g,0,rfl,(cell_of_row w g 0 _ _ _ h).trans rfl,(cell_of_row w g 1 _ _ _ h).trans rfl⟩
theorem AQ {v:Value} {B:Nat} {evs:List (Int×List UInt8)} {w:World} (h:aS w B 31 2 kP v evs):∃A c,v=.slice A evs.length c/\kh w A evs:=by
 obtain⟨A,c,rfl⟩:=h.shape
 exact⟨A,c,rfl,kh.row h⟩
section
variable {w u:World} {b3:Nat} {X:TV} {t:Tm}
theorem rG.thr (h:rG w b3 X t u) {v:World} {g:Nat} (hb:aE u v) (hg:v.heap[g]?=some (.cells #[ae X.k,ae X.n,af X.s,.slice X.A X.len X.cap] 27 (0,0))):aI v (aR v 27) ⟨4,0,cT,some (ak g 0),1,1⟩ (fO t):=
 ct.block (xs:=[X]) ((ct.nil v _).snoc (h.later hb).hx) hg ⟨_,hg⟩ cT (by decide) 4 0 1
end
theorem rX {v:World} {g:Nat} {Y Z:TV} {y z p:Tm} {P:TV} (hY:aI v (aR v 27) Y y) (hP:aI v (aR v 27) P p) (hZ:aI v (aR v 27) Z z) (hg:v.heap[g]?=some (.cells #[ae Y.k,ae Y.n,af Y.s,.slice Y.A Y.len Y.cap,ae P.k,ae P.n,af P.s,.slice P.A P.len P.cap,ae Z.k,ae Z.n,af Z.s,.slice Z.A Z.len Z.cap] 27 (0,0))):aI v (aR v 27) ⟨4,0,fj,some (ak g 0),3,3⟩ (.mk 4 0 fj [y,p,z]):=
 ct.block (xs:=[Y,P,Z]) ((((ct.nil v _).snoc hY).snoc hP).snoc hZ) hg ⟨_,hg⟩ fj (by decide) 4 0 3
section
variable {t:Tm}
theorem BJ (hm:t.may=true) (hs:t.size<=900):(fO t).may=true/\(fO t).size<=2000:=by
 refine⟨?_,by simp[fO,Tm.size,Tm.sizes];omega⟩
 simp[fO,Tm.may,Tm.mays,hm]
 decide
theorem pX {p:Tm} (hm:t.may=true) (hs:t.size<=900) (hp:p.may=true) (hps:p.size=1):(du t p).may=true/\(du t p).size<=2000:=by
 refine⟨?_,by simp[du,fO,fN,Tm.size,Tm.sizes,hps];omega⟩
 simp[du,fO,fN,Tm.may,Tm.mays,hm,hp]
 decide
end
theorem rS (w:World):cO w none []:=fun q x hq=>by simp at hq
theorem Eb {w:World} {g:Nat} (h:w.heap[g]?=some (.cells #[.string ⟨#[88]⟩,ae 99999] 39 (0,0))):cO w (some (ak g 0)) [([88],99999)]:=fun q x hq=>by
 match q,hq with
 |0,hq=>
  injection hq with hq
  subst hq
  exact⟨by decide,g,0,rfl,⟨_,h⟩,(cell_of_row w g 0 _ _ _ h).trans rfl,(cell_of_row w g 1 _ _ _ h).trans rfl⟩
theorem wW (w:World) (hE:ms w) (A0:Option Addr) (n0 c0:Nat) (hp0:qh w A0 n0 c0)
 (hAw:Calls prog 4 #[] w fun e u=>e=.returned (.bool true)/\aE w u):
 Calls prog 3 #[.slice A0 n0 c0] w fun e w'=>e=.returned (.bool true)/\aE w w':=by
 refine aa fun P hP=>?_
 have HOK:Hid (∀u,aE w u->P (.returned (.bool true)) u):=ad fun u hb=>by rw[hP];exact⟨rfl,hb⟩
 have HAW:=ad hAw
 have HE:=ad hE
 have HP0:=ad hp0
 clear hP hAw hE hp0
 by_cases hbig:60<n0
 ·have hd:decide (60<n0)=true:=by simp;omega
  clear hbig
  go_enter func3,ntmps3
  go_wp2_with fail
  refine HAW.mono ?_
  rintro e w1 ⟨rfl,hb1⟩
  have HB1:=ad hb1
  clear hb1 HAW
  go_wp2_with fail
  refine(oA w1 A0 n0 c0).mono ?_
  rintro e w2 ⟨rfl,rfl⟩
  rw[hd]
  go_wp2_with fail
  exact HOK.out _ HB1.out
 have hd:decide (60<n0)=false:=by simp;omega
 obtain⟨l0,hl0,hcl,hpl,hnl⟩:=HP0.out (by omega)
 subst hl0
 obtain⟨m0,s0,-⟩:=zP hnl (by omega)
 have hft:(lH l0).fits=true:=ls _ (nT _ l0 hnl)
 obtain⟨t,ht⟩:∃t,t=lH l0:=⟨_,rfl⟩
 have HG:=ad (show t.may=true/\t.fits=true/\t.size<=900 from by rw[ht];exact⟨m0,hft,by omega⟩)
 have HPL:=ad (aD hpl (aD hcl (show l0.length<=60 by omega)))
 have HT0:=ad ht
 clear hpl hcl hnl m0 s0 hft hbig HP0 ht
 go_enter func3,ntmps3
 go_wp2_with fail
 refine HAW.mono ?_
 rintro e w1 ⟨rfl,hb1⟩
 have HB1:=ad hb1
 clear hb1 HAW
 go_wp2_with fail
 refine(oA w1 A0 l0.length c0).mono ?_
 rintro e w2 ⟨rfl,rfl⟩
 rw[hd]
 clear hd
 go_wp2_with fail
 refine(Bz l0 _ A0 c0 HPL.2.1 (HPL.1.later HB1.out) (by have:=HPL.2.2;omega)).mono ?_
 rintro e w4 ⟨⟨k,n,s,A,len,c⟩,rfl,hX,hb4⟩
 rw[<-HT0.out]at hX
 unfold aU
 obtain⟨b3,hb3⟩:∃b,b=w4.heap.size:=⟨_,rfl⟩
 obtain⟨W,hW⟩:∃W,W=w4.alloc (.cells #[ae k,ae n,af s,.slice A len c] 27):=⟨_,rfl⟩
 have hbW:aE w4 W:=by rw[hW];exact aB
 have hbA:=HB1.trans ((hb4.trans (hbW.mono hb4.size)).mono HB1.size)
 have HT:Hid (rG w b3 ⟨k,n,s,A,len,c⟩ t W):=ad ⟨HE.later hbA,hX.keep (fun b hb=>hb.2.keep (hbW.block b hb.2.lt)) fun b hb=>hbW.block b hb.2.lt,by rw[hW,hb3];exact az,hbA⟩
 clear hX hb4 hbW hbA HB1 HPL HT0
 go_upto_region 6 with fail
 rw[<-hb3,<-hW]
 clear hW hb3
 have hkt:k=t.k:=by
  generalize hy:(⟨k,n,s,A,len,c⟩:TV)=y
  have hT:=HT.hx
  rw[hy]at hT
  have:y.k=t.k:=by
   cases hT with
   |mk _ args xs h1 h2 h3 _ _=>rfl
  rw[<-hy]at this
  exact this
 obtain⟨x0,x1,x2,x3,-⟩:=aH HT.bx
 by_cases hk1:k=1
 ·have hk1':(k==1)=true:=by rw[hk1];rfl
  clear hkt
  go_wp2_with fail
  exact HOK.out _ HT.low
 have hk1':(k==1)=false:=beq_false_of_ne hk1
 have HK:Hid (t.k≠1/\k=t.k):=ad ⟨by rw[<-hkt];exact hk1,hkt⟩
 clear hk1 hkt
 go_upto_region 8 with fail
 obtain⟨txt,htxt⟩:∃txt,txt=ua t:=⟨_,rfl⟩
 have HQT:Hid (∀u,rG w b3 ⟨k,n,s,A,len,c⟩ t u->Calls prog 7 #[.agg #[ae k,ae n,af s,.slice A len c]] u fun e w'=>e=.returned (af txt)/\aE u w'):=ad fun u hu=>by
  rw[htxt]
  exact Bv u hu.env ⟨k,n,s,A,len,c⟩ hu.hx HG.1 HG.2.1 (by have:=HG.2.2;omega)
 have HTX:=ad htxt
 clear htxt
 go_wp2_with fail
 refine(HQT.out W HT.out).mono ?_
 rintro e w5 ⟨rfl,hb5⟩
 obtain⟨gw,hgw⟩:∃b,b=w5.heap.size:=⟨_,rfl⟩
 obtain⟨V5,hV5⟩:∃V,V=w5.alloc (.cells #[ae 3,af txt] 31):=⟨_,rfl⟩
 have hbV:aE w5 V5:=by rw[hV5];exact aB
 have H5:Hid (rG w b3 ⟨k,n,s,A,len,c⟩ t V5/\kh V5 (some (ak gw 0)) [(3,txt)]):=ad ⟨(HT.later hb5).later hbV,yO (by rw[hV5,hgw];exact az)⟩
 clear hb5 hbV HT x0 x1 x2 x3 hk1'
 go_upto_region 9 with fail
 rw[<-hgw,<-hV5]
 clear hV5 hgw
 obtain⟨x0,x1,x2,x3,-⟩:=aH H5.1.bx
 obtain⟨g6,hg6⟩:∃b,b=V5.heap.size:=⟨_,rfl⟩
 obtain⟨V6,hV6⟩:∃V,V=V5.alloc (.cells #[ae k,ae n,af s,.slice A len c] 27):=⟨_,rfl⟩
 have hb6:aE V5 V6:=by rw[hV6];exact aB
 have hz6:V6.heap[g6]?=some (.cells #[ae k,ae n,af s,.slice A len c] 27 (0,0)):=by rw[hV6,hg6];exact az
 have HF6:=ad (su V6 cT (some (ak g6 0)) 1 1)
 have H6:=ad (aD (H5.1.later hb6) (aD (H5.2.later hb6) (H5.1.thr hb6 hz6)))
 clear hb6 hz6 H5
 go_wp2_with fail
 rw[<-hg6,<-hV6]
 clear hg6 hV6
 refine HF6.mono ?_
 rintro e w7 ⟨rfl,hb7⟩
 have HA7:=ad (qd (names:=[]) (t:=t) (G:=fun l=>l=[(3,txt)]) w7 (H6.1.later hb7).env ⟨4,0,cT,some (ak g6 0),1,1⟩ none 0 (H6.2.2.keep (fun b hb=>hb.keep (hb7.block b hb.lt)) fun b hb=>hb7.block b hb.lt) (BJ HG.1 HG.2.2).1 (BJ HG.1 HG.2.2).2 (rS _) (by decide) HG.1 HG.2.1 (by have:=HG.2.2;omega) fun _B w0 W' rb mb db ob r h1 h2 h3 h4 _ h6=>by
  rw[HTX.out]
  exact vZ h1 h2 h3 h4 HG.1 HG.2.1 (by have:=HG.2.2;omega) HK.1 h6)
 have H7:=ad (aD (H6.1.later hb7) (H6.2.1.later hb7))
 clear hb7 H6 HF6 x0 x1 x2 x3
 unfold aU at HA7⊢
 go_wp2_with fail
 refine HA7.mono ?_
 rintro e w8 ⟨v,lim,B8,evs,rfl,h8,hb8⟩
 obtain⟨A8,c8,rfl,hs8⟩:=AQ h8.2.2
 obtain rfl:evs=[(3,txt)]:=h8.1
 rw[show[((3:Int),txt)].length=1 from rfl]
 have H8:=ad (aD (H7.1.later hb8) (aD (H7.2.later hb8) hs8))
 clear h8 hb8 hs8 H7 HA7
 go_upto_region 10 with fail
 obtain⟨x0,x1,x2,x3,-⟩:=aH H8.1.bx
 obtain⟨ga,hga⟩:∃b,b=w8.heap.size:=⟨_,rfl⟩
 obtain⟨Va,hVa⟩:∃V,V=w8.alloc (.cells #[ae k,ae n,af s,.slice A len c] 27):=⟨_,rfl⟩
 have hb:aE w8 Va:=by rw[hVa];exact aB
 have hz:Va.heap[ga]?=some (.cells #[ae k,ae n,af s,.slice A len c] 27 (0,0)):=by rw[hVa,hga];exact az
 have HFa:=ad (su Va cT (some (ak ga 0)) 1 1)
 have Ha:=ad (aD (H8.1.thr hb hz) (aD (H8.1.later hb) (aD (H8.2.1.later hb) (H8.2.2.later hb))))
 clear hb hz H8
 go_wp2_with fail
 rw[<-hga,<-hVa]
 clear hga hVa
 refine HFa.mono ?_
 rintro e wb ⟨rfl,hb⟩
 have Hb:=ad (aD (Ha.1.keep (fun b hk=>hk.keep (hb.block b hk.lt)) fun b hk=>hb.block b hk.lt) (aD (Ha.2.1.later hb) (aD (Ha.2.2.1.later hb) (Ha.2.2.2.later hb))))
 clear hb Ha HFa x0 x1 x2 x3
 unfold aU
 go_wp2_with fail
 refine(zO wb [36,110,111,110,101]).mono ?_
 rintro e wc ⟨rfl,hb⟩
 have Hc:=ad (aD (Hb.1.keep (fun b hk=>hk.keep (hb.block b hk.lt)) fun b hk=>hb.block b hk.lt) (aD (Hb.2.1.later hb) (aD (Hb.2.2.1.later hb) (Hb.2.2.2.later hb))))
 clear hb Hb
 go_wp2_with fail
 refine(zO wc [116,114,117,101]).mono ?_
 rintro e wd ⟨rfl,hb⟩
 have Hd:=ad (aD (Hc.1.keep (fun b hk=>hk.keep (hb.block b hk.lt)) fun b hk=>hb.block b hk.lt) (aD (Hc.2.1.later hb) (aD (Hc.2.2.1.later hb) (Hc.2.2.2.later hb))))
 clear hb Hc
 obtain⟨ge,hge⟩:∃b,b=wd.heap.size:=⟨_,rfl⟩
 obtain⟨Ve,hVe⟩:∃V,V=wd.alloc (.cells #[ae 4,ae 0,af cT,al ga 1 1,ae 3,ae 0,.string ⟨#[36,110,111,110,101]⟩,aj,ae 3,ae 0,.string ⟨#[116,114,117,101]⟩,aj] 27):=⟨_,rfl⟩
 have hb:aE wd Ve:=by rw[hVe];exact aB
 have hz:Ve.heap[ge]?=some (.cells #[ae 4,ae 0,af cT,al ga 1 1,ae 3,ae 0,.string ⟨#[36,110,111,110,101]⟩,aj,ae 3,ae 0,.string ⟨#[116,114,117,101]⟩,aj] 27 (0,0)):=by rw[hVe,hge];exact az
 have He0:=ad (aD (Hd.1.keep (fun b hk=>hk.keep (hb.block b hk.lt)) fun b hk=>hb.block b hk.lt) (aD (Hd.2.1.later hb) (aD (Hd.2.2.1.later hb) (Hd.2.2.2.later hb))))
 have HC:=ad (rX (P:=⟨3,0,[36,110,111,110,101],none,0,0⟩) (p:=eZ) (Z:=⟨3,0,[116,114,117,101],none,0,0⟩) (z:=fN) He0.1 (aI.leaf Ve _ _ _ _ none 0 (by decide)) (aI.leaf Ve _ _ _ _ none 0 (by decide)) hz)
 have HFe:=ad (su Ve fj (some (ak ge 0)) 3 3)
 clear hb hz Hd
 go_wp2_with fail
 rw[<-hge,<-hVe]
 clear hge hVe
 refine HFe.mono ?_
 rintro e wf ⟨rfl,hb⟩
 have Hf:=ad (aD (HC.keep (w':=wf) (S':=aR wf 27) (fun b hk=>hk.keep (hb.block b hk.lt)) fun b hk=>hb.block b hk.lt) (aD (He0.2.1.later hb) (aD (He0.2.2.1.later hb) (He0.2.2.2.later hb))))
 clear hb HC HFe He0
 have HAN:=ad (qd (names:=[]) (t:=t) (G:=fun l=>t≠eZ->l=[(3,txt)]) wf Hf.2.1.env ⟨4,0,fj,some (ak ge 0),3,3⟩ none 0 Hf.1 (pX (p:=eZ) HG.1 HG.2.2 (by decide) rfl).1 (pX (p:=eZ) HG.1 HG.2.2 (by decide) rfl).2 (rS _) (by decide) HG.1 HG.2.1 (by have:=HG.2.2;omega) fun _B w0 W' rb mb db ob r h1 h2 h3 h4 _ h6=>by
  rw[HTX.out]
  exact zY h1 h2 h3 h4 HG.1 HG.2.1 HG.2.2 HK.1 h6)
 unfold aU at HAN⊢
 go_wp2_with fail
 refine HAN.mono ?_
 rintro e w9 ⟨v,lim2,B9,evs,rfl,h9,hb⟩
 obtain⟨A9,c9,rfl,hs9⟩:=AQ h9.2.2
 obtain⟨n9,hn9⟩:∃n9,n9=evs.length:=⟨_,rfl⟩
 rw[<-hn9]
 have HY:=ad (aD hn9 h9.1)
 have H9:=ad (aD (Hf.2.1.later hb) (aD (Hf.2.2.1.later hb) (aD (Hf.2.2.2.later hb) hs9)))
 clear h9 hb hs9 hn9 Hf HAN
 go_upto_region 11 with fail
 obtain⟨x0,x1,x2,x3,-⟩:=aH H9.1.bx
 obtain⟨ga,hga⟩:∃b,b=w9.heap.size:=⟨_,rfl⟩
 obtain⟨Va,hVa⟩:∃V,V=w9.alloc (.cells #[ae k,ae n,af s,.slice A len c] 27):=⟨_,rfl⟩
 have hb:aE w9 Va:=by rw[hVa];exact aB
 have hz:Va.heap[ga]?=some (.cells #[ae k,ae n,af s,.slice A len c] 27 (0,0)):=by rw[hVa,hga];exact az
 have HFa:=ad (su Va cT (some (ak ga 0)) 1 1)
 have Ha:=ad (aD (H9.1.thr hb hz) (aD (H9.1.later hb) (aD (H9.2.1.later hb) (aD (H9.2.2.1.later hb) (H9.2.2.2.later hb)))))
 clear hb hz H9
 go_wp2_with fail
 rw[<-hga,<-hVa]
 clear hga hVa
 refine HFa.mono ?_
 rintro e wb ⟨rfl,hb⟩
 have Hb:=ad (aD (Ha.1.keep (fun b hk=>hk.keep (hb.block b hk.lt)) fun b hk=>hb.block b hk.lt) (aD (Ha.2.1.later hb) (aD (Ha.2.2.1.later hb) (aD (Ha.2.2.2.1.later hb) (Ha.2.2.2.2.later hb)))))
 clear hb Ha HFa x0 x1 x2 x3
 unfold aU
 go_wp2_with fail
 refine(El wb 99999).mono ?_
 rintro e wc ⟨rfl,hb⟩
 have Hc:=ad (aD (Hb.1.keep (fun b hk=>hk.keep (hb.block b hk.lt)) fun b hk=>hb.block b hk.lt) (aD (Hb.2.1.later hb) (aD (Hb.2.2.1.later hb) (aD (Hb.2.2.2.1.later hb) (Hb.2.2.2.2.later hb)))))
 clear hb Hb
 go_wp2_with fail
 refine(zO wc [116,114,117,101]).mono ?_
 rintro e wd ⟨rfl,hb⟩
 have Hd:=ad (aD (Hc.1.keep (fun b hk=>hk.keep (hb.block b hk.lt)) fun b hk=>hb.block b hk.lt) (aD (Hc.2.1.later hb) (aD (Hc.2.2.1.later hb) (aD (Hc.2.2.2.1.later hb) (Hc.2.2.2.2.later hb)))))
 clear hb Hc
 obtain⟨ge,hge⟩:∃b,b=wd.heap.size:=⟨_,rfl⟩
 obtain⟨Ve,hVe⟩:∃V,V=wd.alloc (.cells #[ae 4,ae 0,af cT,al ga 1 1,ae 1,ae 99999,ai,aj,ae 3,ae 0,.string ⟨#[116,114,117,101]⟩,aj] 27):=⟨_,rfl⟩
 have hb:aE wd Ve:=by rw[hVe];exact aB
 have hz:Ve.heap[ge]?=some (.cells #[ae 4,ae 0,af cT,al ga 1 1,ae 1,ae 99999,ai,aj,ae 3,ae 0,.string ⟨#[116,114,117,101]⟩,aj] 27 (0,0)):=by rw[hVe,hge];exact az
 have He0:=ad (aD (Hd.1.keep (fun b hk=>hk.keep (hb.block b hk.lt)) fun b hk=>hb.block b hk.lt) (aD (Hd.2.1.later hb) (aD (Hd.2.2.1.later hb) (aD (Hd.2.2.2.1.later hb) (Hd.2.2.2.2.later hb)))))
 have HC:=ad (rX (P:=⟨1,99999,[],none,0,0⟩) (p:=qi) (Z:=⟨3,0,[116,114,117,101],none,0,0⟩) (z:=fN) He0.1 (aI.leaf Ve _ _ _ _ none 0 (by decide)) (aI.leaf Ve _ _ _ _ none 0 (by decide)) hz)
 have HFe:=ad (su Ve fj (some (ak ge 0)) 3 3)
 clear hb hz Hd
 go_wp2_with fail
 rw[<-hge,<-hVe]
 clear hge hVe
 refine HFe.mono ?_
 rintro e wf ⟨rfl,hb⟩
 have Hf:=ad (aD (HC.keep (w':=wf) (S':=aR wf 27) (fun b hk=>hk.keep (hb.block b hk.lt)) fun b hk=>hb.block b hk.lt) (aD (He0.2.1.later hb) (aD (He0.2.2.1.later hb) (aD (He0.2.2.2.1.later hb) (He0.2.2.2.2.later hb)))))
 clear hb HC HFe He0
 obtain⟨gn,hgn⟩:∃b,b=wf.heap.size:=⟨_,rfl⟩
 obtain⟨Vn,hVn⟩:∃V,V=wf.alloc (.cells #[.string ⟨#[88]⟩,ae 99999] 39):=⟨_,rfl⟩
 have hb:aE wf Vn:=by rw[hVn];exact aB
 have HNM:=ad (Eb (w:=Vn) (g:=gn) (by rw[hVn,hgn];exact az))
 have Hg:=ad (aD (Hf.1.keep (fun b hk=>hk.keep (hb.block b hk.lt)) fun b hk=>hb.block b hk.lt) (aD (Hf.2.1.later hb) (aD (Hf.2.2.1.later hb) (aD (Hf.2.2.2.1.later hb) (Hf.2.2.2.2.later hb)))))
 clear hb Hf
 have HAN:=ad (qd (names:=[([88],99999)]) (t:=t) (G:=fun l=>l=[(1,gS txt)]) Vn Hg.2.1.env ⟨4,0,fj,some (ak ge 0),3,3⟩ (some (ak gn 0)) 1 Hg.1 (pX (p:=qi) HG.1 HG.2.2 (by decide) rfl).1 (pX (p:=qi) HG.1 HG.2.2 (by decide) rfl).2 HNM.out (by decide) HG.1 HG.2.1 (by have:=HG.2.2;omega) fun _B w0 W' rb mb db ob r h1 h2 h3 h4 h5 h6=>by
  rw[HTX.out]
  exact CC h1 h2 h3 h4 h5 HG.1 HG.2.1 HG.2.2 HK.1 (uJ HG.1 HG.2.1 (by have:=HG.2.2;omega)) h6)
 unfold aU at HAN⊢
 go_wp2_with fail
 rw[<-hgn,<-hVn]
 clear hgn hVn
 refine HAN.mono ?_
 rintro e wx ⟨v,lim3,Bx,tM,rfl,hx,hb⟩
 obtain⟨Ax,cx,rfl,hsx⟩:=AQ hx.2.2
 obtain rfl:tM=[(1,gS txt)]:=hx.1
 rw[show[((1:Int),gS txt)].length=1 from rfl]
 have Hx:=ad (aD (Hg.2.1.later hb) (aD (Hg.2.2.1.later hb) (aD (Hg.2.2.2.1.later hb) (aD (Hg.2.2.2.2.later hb) hsx))))
 clear hx hb hsx Hg HAN HNM
 go_upto_region 12 with fail
 obtain⟨x0,x1,x2,x3,-⟩:=aH Hx.1.bx
 have HSX:=ad (ml wx A8 (some (ak gw 0)) 1 c8 1 [(3,txt)] Hx.2.2.1 Hx.2.1 rfl (by decide))
 by_cases hcd:k=3/\s=[36,110,111,110,101]
 ·obtain⟨rfl,rfl⟩:=hcd
  clear HY
  go_wp2_with fail
  refine HSX.mono ?_
  rintro e wy ⟨rfl,hb⟩
  have HQ:=ad (HOK.out wy (Hx.1.later hb).low)
  clear hb x0 x1 x2 x3
  go_wp2_with fail
  exact HQ.out
 have hnt:t≠eZ:=by
  intro e
  have hT:=Hx.1.hx
  generalize hy:(⟨k,n,s,A,len,c⟩:TV)=y at hT
  rw[e]at hT
  unfold eZ at hT
  have hA:y.k=3/\y.s=[36,110,111,110,101]:=by
   generalize hg:Tm.mk 3 0 [36,110,111,110,101] []=G at hT
   cases hT with
   |mk _ args xs h1 h2 h3 _ _=>
    injection hg with q1 q2 q3 q4
    exact⟨q1.symm,q3.symm⟩
  rw[<-hy]at hA
  exact hcd hA
 obtain⟨hn9,hevs⟩:=HY.out
 obtain rfl:=hevs hnt
 rw[show[((3:Int),txt)].length=1 from rfl]at hn9
 subst hn9
 clear hevs hnt HY
 have hcc:(k==3)=false\/(k=3/\s≠[36,110,111,110,101]):=by
  by_cases h3:k=3
  ·exact .inr ⟨h3,fun e=>hcd ⟨h3,e⟩⟩
  ·exact .inl (beq_false_of_ne h3)
 clear hcd
 have hcat:(⟨#[88,32,61,32]⟩++⟨txt.toArray⟩:ByteArray)=⟨(gS txt).toArray⟩:=by
  apply ByteArray.ext
  simp[gS]
 rcases hcc with hk3|⟨rfl,hs3⟩
 case' inr=>
  have hs4:(s==[36,110,111,110,101])=false:=beq_false_of_ne hs3
  clear hs3
 all_goals
  go_upto_region 14 with fail
  go_wp2_with fail
  refine HSX.mono ?_
  rintro e wy ⟨rfl,hb⟩
  have Hy:=ad (aD (Hx.1.later hb) (aD (Hx.2.1.later hb) (aD (Hx.2.2.2.1.later hb) (Hx.2.2.2.2.later hb))))
  clear hb Hx HSX x0 x1 x2 x3
  have HSY:=ad (ml wy A9 (some (ak gw 0)) 1 c9 1 [(3,txt)] Hy.2.2.1 Hy.2.1 rfl (by decide))
  go_wp2_with fail
  refine HSY.mono ?_
  rintro e wz ⟨rfl,hb⟩
  have Hz:=ad (aD (Hy.1.later hb) (Hy.2.2.2.later hb))
  clear hb Hy HSY
  obtain⟨x0,x1,x2,x3,-⟩:=aH Hz.1.bx
  go_wp2_with fail
  refine(HQT.out wz Hz.1).mono ?_
  rintro e wq ⟨rfl,hb⟩
  obtain⟨gq,hgq⟩:∃b,b=wq.heap.size:=⟨_,rfl⟩
  obtain⟨Vq,hVq⟩:∃V,V=wq.alloc (.cells #[ae 1,af (gS txt)] 31):=⟨_,rfl⟩
  have hbq:aE wq Vq:=by rw[hVq];exact aB
  have Hq:=ad (aD ((Hz.1.later hb).later hbq) (aD ((Hz.2.later hb).later hbq) (yO (w:=Vq) (g:=gq) (k:=1) (s:=gS txt) (by rw[hVq,hgq];exact az))))
  clear hb hbq Hz x0 x1 x2 x3
  have htl:txt.length<=100000000:=by rw[HTX.out];exact uJ HG.1 HG.2.1 (by have:=HG.2.2;omega)
  have HSZ:=ad (ml Vq Ax (some (ak gq 0)) 1 cx 1 [(1,gS txt)] Hq.2.1 Hq.2.2 rfl (by decide))
  go_wp2_with fail
  rw[<-hgq,<-hVq]
  clear hgq hVq
  refine HSZ.mono ?_
  rintro e wl ⟨rfl,hb⟩
  have HQ:=ad (HOK.out wl (Hq.1.later hb).low)
  clear hb Hq HSZ
  go_wp2_with fail
  exact HQ.out
end
end Go.Proofs.YtigeofkllldilaaGreatDoor
open Go.Proofs.Tryz
namespace Go.Proofs.YtigeofkllldilaaGreatDoor
section
open Go.RowKit Go.Maps
variable[Base]
def Fx (v:Value) (over:List UInt8) (w:World):Prop:=over=[]/\∃B,aS w B 31 2 kP v tM
theorem xh (w:World) (hE:jO w) (x:TV) (A:Option Addr) (c:Nat) (hx:aI w (aR w 27) x lY) (hn:cO w A [([88],0)]):
 Calls prog 8 #[.string ⟨#[112,40,49,41,46,32,112,40,50,41,46]⟩,aU x,.slice A 1 c,ae 5] w fun e w'=>∃A2 c2,e=.returned (.tuple #[.slice A2 3 c2,.bool false])/\kh w' A2 tM/\TF iN w w':=by
 refine(lG w hE BX 2 (.inr (.inr rfl)) (by rw[BU];exact Ed) x A 1 c 5 Fx (fun v over u u' ⟨h1,B,h2⟩ hb=>⟨h1,B,h2.later hb⟩) fun w0 W mb db dmb ob hW hmb hM hL _=>?_).mono ?_
 ·obtain⟨pb,Ad,cd,cls,ver,ov,hD⟩:=hL.two
  refine(uH W mb db ob x lY A c [([88],0)] 5 (B5 W mb db ob) hM (hx.keep (fun b hb=>hb.keep (hW.block b hb.lt)) fun b hb=>hW.block b hb.lt) rfl (by simp[lY,jk,Tm.size,Tm.sizes]) (hn.later hW) (by decide) (by decide) hmb fun W2 rb r h1 h2 h3 h4=>?_).mono ?_
  ·exact BR h4 h1 h3 (hx.keep (fun b hb=>hb.keep ((hW.trans (h1.mono hW.size)).block b hb.lt)) fun b hb=>(hW.trans (h1.mono hW.size)).block b hb.lt) (hD.later h1) ((hn.later hW).later h1) hD.at'.map.lt
  ·rintro e w' ⟨v,rfl,B,spent,j1,j2,j3⟩
   exact⟨v,spent,[],rfl,j2,j3,rfl,B,j1⟩
 ·rintro e w' ⟨v,over,rfl,⟨rfl,B,h1⟩,h2⟩
  obtain⟨A2,c2,rfl⟩:=h1.shape
  exact⟨A2,c2,rfl,kh.row h1,h2⟩
omit[Base]in
theorem wU {u:World} {B n c:Nat} {A:Option Addr} {l:List (List UInt8×Int)} (h:aS u B 39 2 lW (.slice A n c) l) (hp:∀x∈l,0<=x.2):cO u A l:=fun q x hq=>by
 obtain⟨g,cap,e1,-,-,-,hc⟩:=h.cells (enc:=lW) (fun _=>rfl) (show l≠[]by rintro rfl;cases hq)
 have ht:aR u 39 g:=h.ty (by rw[e1];rfl)
 injection e1 with e1
 refine⟨hp x (List.mem_of_getElem? hq),g,0,e1,ht,?_,?_⟩
 ·rw[Nat.zero_add];exact(hc q x hq 0 _ rfl).1
 ·rw[Nat.zero_add];exact(hc q x hq 1 _ rfl).1
def vm:Array Value:=#[ae 1,.string ⟨#[88,32,61,32,49]⟩,ae 1,.string ⟨#[88,32,61,32,50]⟩,ae 2,ai]
omit[Base]in
theorem Cn {w:World} {g:Nat} (h:w.heap[g]?=some (.cells vm 31 (0,0))):kh w (some (ak g 0)) tM:=fun q x hq=>by
 have hc:=fun k=>cell_of_row w g k _ _ _ h
 match q,hq with
 |0,hq=>injection hq with hq;subst hq;exact⟨g,0,rfl,(hc 0).trans rfl,(hc 1).trans rfl⟩
 |1,hq=>injection hq with hq;subst hq;exact⟨g,0,rfl,(hc 2).trans rfl,(hc 3).trans rfl⟩
 |2,hq=>injection hq with hq;subst hq;exact⟨g,0,rfl,(hc 4).trans rfl,(hc 5).trans rfl⟩
theorem wG (w:World) (hE:jO w):Calls prog 4 #[] w fun e u=>e=.returned (.bool true)/\Below Base.b w u:=by
 have HE:=ad hE
 clear hE
 go_enter func4,ntmps4
 go_wp2_with fail
 refine(wJ w HE.env).mono ?_
 rintro e w1 ⟨x,nv,B,line,next,rfl,hx,hnv,hb1⟩
 obtain⟨Av,cv,rfl⟩:=hnv.shape
 obtain⟨k1,n1,s1,A1,l1,c1⟩:=x
 dsimp only[BO]
 replace hnv:aS w1 B 39 2 lW (.slice Av 1 cv) [([88],0)]:=hnv
 rw[show[(([88]:List UInt8),(0:Int))].length=1 from rfl]
 obtain⟨W,hW⟩:∃W,W=w1.alloc (.cells #[ae k1,ae n1,af s1,.slice A1 l1 c1,.slice Av 1 cv,ae line,ae next] 43):=⟨_,rfl⟩
 have hbW:aE w1 W:=by rw[hW];exact aB
 have hz:W.heap[w1.heap.size]?=some (.cells #[ae k1,ae n1,af s1,.slice A1 l1 c1,.slice Av 1 cv,ae line,ae next] 43 (0,0)):=by rw[hW];exact az
 obtain⟨y0,y1,y2,y3,y4,-,-,-⟩:=eU hz
 have hbwW:aE w W:=hb1.trans (hbW.mono hb1.size)
 have HA:=ad (xh W (HE.later hbwW) ⟨k1,n1,s1,A1,l1,c1⟩ Av cv (hx.keep (fun b hb=>hb.keep (hbW.block b hb.lt)) fun b hb=>hbW.block b hb.lt) ((wU hnv (by simp)).later hbW))
 unfold aU at HA
 have HB:=ad hbwW
 clear hx hnv hb1 hbW hz hbwW
 go_upto_region 2 with fail
 rw[<-hW]
 clear hW
 go_wp2_with fail
 refine HA.mono ?_
 rintro e w3 ⟨A2,c2,rfl,h3,h4⟩
 obtain⟨U,hU⟩:∃U,U=w3.alloc (.cells vm 31):=⟨_,rfl⟩
 have hbU:aE w3 U:=by rw[hU];exact aB
 have hzU:U.heap[w3.heap.size]?=some (.cells vm 31 (0,0)):=by rw[hU];exact az
 have HS:=ad (ml U A2 (some (ak w3.heap.size 0)) 3 c2 3 tM (fun q x hq=>by
  obtain⟨g,off,e1,k1,k2⟩:=h3 q x hq
  exact⟨g,off,e1,(hbU.cell (p:=(ak g (off+q*2))) (World.block_lt_of_cell? w3 _ k1)).trans k1,(hbU.cell (p:=(ak g (off+q*2+1))) (World.block_lt_of_cell? w3 _ k2)).trans k2⟩) (Cn hzU) rfl (by decide))
 have HL:Hid (Below Base.b w U):=ad ((HB.mono HE.le).trans ((h4.low (Nat.le_trans HE.le HB.size) aC).trans (hbU.mono (Nat.le_trans HE.le (Nat.le_trans HB.size h4.size)))))
 have HM:Hid (Base.b<=U.heap.size):=ad (Nat.le_trans HE.le (Nat.le_trans HB.size (Nat.le_trans h4.size hbU.size)))
 clear h3 h4 hbU hzU HA HB y0 y1 y2 y3 y4
 unfold vm at hU
 go_wp2_with fail
 rw[<-hU]
 refine HS.mono ?_
 rintro e w4 ⟨rfl,hb4⟩
 have HQ:Hid (Below Base.b w w4):=ad (HL.trans (hb4.mono HM.out))
 clear hb4 HS hU
 go_wp2_with fail
 go_ret
 exact⟨rfl,HQ.out⟩
end
section
open Go.ChangeShapes Go.WideShapes Go.ChangeAt Go.RowKit Go.Deep
theorem Fo:prog.globalNamed "internal/strconv.uint64pow10"=some 4:=by kernel_rfl
theorem yG:(prog.globals[4]?).map (·.type)=some 483:=by kernel_rfl
theorem yp:prog.cellsOf 301=1:=by kernel_rfl
theorem vT:prog.cellsOf 483=20:=by kernel_rfl
theorem sD {W:World} {rest:List (String×DataW Unit)} (h:laidMet prog (("internal/strconv.uint64pow10",Rows.laid_internal_strconv_uint64pow10)::rest) W):fk W:=
 Lib.tabIs_of_head (rest:=rest) Fo yG underlying483 underlying301 yp vT h
theorem yL {W:World} {m:Int} (hm:W.cell? (ak 3 0)=some (ae m))
 (hL:laidMet prog [("math/bits.deBruijn32tab",Rows.laid_math_bits_deBruijn32tab),("math/bits.deBruijn64tab",Rows.laid_math_bits_deBruijn64tab),("internal/strconv.uint64pow10",Rows.laid_internal_strconv_uint64pow10),("unicode.White_Space",Rows.laid_unicode_White_Space),("strings.asciiSpace",Rows.laid_strings_asciiSpace),("prolix/ops.kinds",Rows.laid_prolix_ops_kinds)] W):ms W:=by
 have h1:=hL.tail
 have h2:=h1.tail
 have h4:=h2.tail.tail
 exact⟨⟨⟨m,hm⟩,oc h4.tail,nW h4⟩,sD h2,rx h1⟩
theorem vM (w:World) (A0:Option Addr) (n0 c0:Nat) (hp0:qh w A0 n0 c0) (hE:ms w):
 Calls prog 3 #[.slice A0 n0 c0] w fun e w'=>e=.returned (.bool true)/\aE w w':=by
 letI:Base:=⟨w.heap.size⟩
 have hB:jO w:=by
  obtain⟨m,hm⟩:=hE.env.max
  exact⟨hE.env,hE.env.kinds.lt,kI hE.env.tab,World.block_lt_of_cell? w _ hm,aC⟩
 exact wW w hE A0 n0 c0 hp0 (wG w hB)
end
end Go.Proofs.YtigeofkllldilaaGreatDoor
