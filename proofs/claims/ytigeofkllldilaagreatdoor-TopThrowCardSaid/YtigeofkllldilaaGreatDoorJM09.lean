import Derived.Test.YtigeofkllldilaaGreatDoorJM06
import Derived.Shelf.Small.Strs
import Derived.Shelf.Small.Wraps
import Derived.Shelf.LaysM
import Derived.Shelf.Strings.Fields
set_option maxHeartbeats 32000000
set_option maxRecDepth 100000
set_option linter.unusedSectionVars false
open Go.Proofs.Tryz
namespace Go.Proofs.YtigeofkllldilaaGreatDoor
section
open Go.RowKit Go.Maps
variable[Base]
omit[Base]in
theorem iS:∀(l:List Tm) (t:Tm),Tm.sizes (l++[t])=Tm.sizes l+t.size
 |[],t=>by simp[Tm.sizes]
 |a::r,t=>by
  have:=iS r t
  simp only[List.cons_append,Tm.sizes]
  omega
omit[Base]in
theorem fS:∀(q:Nat) (l:List Tm),Tm.sizes (l.take q)<=Tm.sizes l
 |0,l=>by simp[Tm.sizes]
 |q+1,[]=>by simp
 |q+1,t::r=>by
  have:=fS q r
  simp only[List.take_succ_cons,Tm.sizes]
  omega
def jR (gb sb:Nat) (u:World) (parts:Nat):Prop:=u.heap[gb]?=some (.cells #[ah sb,ae (parts:Nat),.map none] 385 (0,0))
omit[Base]in
theorem km {w1:World} {b:Nat} {a0 a1 a2:Value} {t:TypeId} (h:w1.heap[b]?=some (.cells #[a0,a1,a2] t (0,0))):
 w1.cell? (ak b 0)=some a0/\w1.cell? (ak b 1)=some a1/\w1.cell? (ak b 2)=some a2/\(∀o,w1.frozen? ⟨b,o,none⟩=false):=
 ⟨by rw[cell_of_row w1 b 0 _ t (0,0) h];rfl,by rw[cell_of_row w1 b 1 _ t (0,0) h];rfl,by rw[cell_of_row w1 b 2 _ t (0,0) h];rfl,fun o=>by simp[World.frozen?,h]⟩
def fL (B:Nat) (u':World) (b:Nat):Prop:=B<=b/\aR u' 27 b
def cj (cs:List Sc):Prop:=∀(i:Nat) c,cs[i]?=some c->c.k=1->c.args=[]
omit[Base]in
theorem jY {cs:List Sc} {i:Nat} {t:Tm} (h:ic cs i t) (hv:cj cs):∃(j:Nat) (c:Sc) (l:List Tm),bP cs i j/\cs[j]?=some c/\t=.mk (di j c).k (di j c).n (di j c).s l/\l.length=c.args.length/\∀(q:Nat) a s,c.args[q]?=some a->l[q]?=some s->ic cs a s:=by
 cases h with
 |@var _ j c hr hc hk=>exact⟨j,c,[],hr,hc,by unfold di;rw[if_pos hk],by rw[hv j c hc hk];rfl,fun q a s _ h=>by simp at h⟩
 |@part _ j c l hr hc hk hl ha=>exact⟨j,c,l,hr,hc,by unfold di;rw[if_neg hk],hl,ha⟩
def sO (gb sb:Nat) (u:World) (parts:Nat) (t:Tm) (e:Ending) (u':World):Prop:=
 ∃y:TV,e=.returned (.tuple #[aU y,ae 0])/\aI u' (fL u.heap.size u') y t/\jR gb sb u' (parts+t.size)/\Fr (fun k=>k=gb) u u'
def EM (gb sb room n:Nat):Prop:=∀(t:Tm) (u:World) (i deep parts:Nat) (cv bv:Value) (xs:List ec) (cs:List Sc) (ys:List (Nat×Int)),t.size<=n->aL sb room u cv bv xs cs ys->jR gb sb u parts->cj cs->ic cs i t->deep+t.size<=2001->parts+t.size<=20000→
 Calls prog 270 #[ah gb,ae (i:Nat),ae (deep:Nat)] u (sO gb sb u parts t)
section
variable {gb sb room:Nat} {u u':World} {cv bv:Value} {xs:List ec} {cs:List Sc} {ys:List (Nat×Int)}
theorem aL.fr1 (h:aL sb room u cv bv xs cs ys) {p:Nat} (hg:jR gb sb u p) (hf:Fr (fun k=>k=gb) u u'):aL sb room u' cv bv xs cs ys:=
 h.keep fun t b ht hb=>hf.block b hb.lt (hb.ne (t':=385) ⟨_,hg⟩ fun e=>by subst e;exact absurd ht (by decide))
omit[Base]in
theorem Cq (j:Nat) (c:Sc) (h:c.s.length<=maxLen):(di j c).s.length<=maxLen:=by
 unfold di
 split
 ·exact Nat.zero_le _
 ·exact h
omit[Base]in
theorem CG (j:Nat) (c:Sc):(di j c).A=none/\(di j c).len=0/\(di j c).cap=0:=by
 unfold di
 split<;>exact⟨rfl,rfl,rfl⟩
omit[Base]in
theorem rY {w:World} {B g n cap k:Nat} {xs:List TV} {x:TV} (h:aS w B 27 4 aJ (al g n cap) xs) (y:TV) (hk:xs[k]?=some x):
 aS ((((w.setCell (ak g (k*4)) (ae y.k)).setCell (ak g (k*4+1)) (ae y.n)).setCell (ak g (k*4+2)) (af y.s)).setCell (ak g (k*4+3)) (.slice y.A y.len y.cap)) B 27 4 aJ (al g n cap) (xs.set k y):=by
 have hl:=(aq hk).1
 have h1:=aS.put bh h (j:=0) (y:= {x with k:=y.k}) (u:=ae y.k) hk (by omega) rfl
 have h2:=aS.put bh h1 (i:=k) (j:=1) (x:= {x with k:=y.k}) (y:= {x with k:=y.k,n:=y.n}) (u:=ae y.n) (by rw[List.getElem?_set_self hl]) (by omega) rfl
 have h3:=aS.put bh h2 (i:=k) (j:=2) (x:= {x with k:=y.k,n:=y.n}) (y:= {x with k:=y.k,n:=y.n,s:=y.s}) (u:=af y.s) (by rw[List.getElem?_set_self (by simpa using hl)]) (by omega) rfl
 have h4:=aS.put bh h3 (i:=k) (j:=3) (x:= {x with k:=y.k,n:=y.n,s:=y.s}) (y:=y) (u:=.slice y.A y.len y.cap) (by rw[List.getElem?_set_self (by simpa using hl)]) (by omega) rfl
 simpa using h4
omit[Base]in
theorem uG {W:World} {p rk:Nat} {y:TV} {t:Tm} (hg:jR gb sb W p) (hf:Fr (fun k=>k=gb) u W) (hr:W.heap[rk]?=some (.cells #[ae 0,ae 0,ai,aj] 27 (0,0))) (hrk:u.heap.size<=rk) (ht:aI W (fun b=>fL u.heap.size W b/\b≠rk) y t):
 aI ((((W.setCell (ak rk 0) (ae y.k)).setCell (ak rk 1) (ae y.n)).setCell (ak rk 2) (af y.s)).setCell (ak rk 3) (.slice y.A y.len y.cap)) (fL u.heap.size ((((W.setCell (ak rk 0) (ae y.k)).setCell (ak rk 1) (ae y.n)).setCell (ak rk 2) (af y.s)).setCell (ak rk 3) (.slice y.A y.len y.cap))) y t/\jR gb sb ((((W.setCell (ak rk 0) (ae y.k)).setCell (ak rk 1) (ae y.n)).setCell (ak rk 2) (af y.s)).setCell (ak rk 3) (.slice y.A y.len y.cap)) p∧
  Fr (fun k=>k=gb) u ((((W.setCell (ak rk 0) (ae y.k)).setCell (ak rk 1) (ae y.n)).setCell (ak rk 2) (af y.s)).setCell (ak rk 3) (.slice y.A y.len y.cap)):=by
 have hgr:gb≠rk:=fun e=>by
  subst e
  unfold jR at hg
  rw[hr]at hg
  injection hg with hg
  injection hg with _ hg
  exact absurd hg (by decide)
 refine⟨ht.keep (fun b hb=>⟨hb.1.1,hb.1.2.keep (aM _ _ _ _ hb.2)⟩) fun b hb=>aM _ _ _ _ hb.2,(aM _ _ _ _ hgr).trans hg,?_⟩
 exact(((hf.setCell (p:=(ak rk 0)) (.inr hrk) _).setCell (p:=(ak rk 1)) (.inr hrk) _).setCell (p:=(ak rk 2)) (.inr hrk) _).setCell (p:=(ak rk 3)) (.inr hrk) _
structure tK (gb sb rk xb tb n:Nat) (u W2:World) (X:TV) (parts:Nat) (l:List Tm) (wr:World) (q:Nat) (zs:List TV):Prop where
 ge:jR gb sb wr (parts+1+Tm.sizes (l.take q))
 fr:Fr (fun k=>k=gb) u wr
 tf:eL 0 [385,27] W2 wr
 rk:wr.heap[rk]?=some (.cells #[ae 0,ae 0,ai,aj] 27 (0,0))
 xb:wr.heap[xb]?=some (.cells #[ae X.k,ae X.n,af X.s,al tb n n] 27 (0,0))
 row:aS wr u.heap.size 27 4 aJ (al tb n n) (zs++List.replicate (n-q) eV)
 ts:ct wr (fun b=>tb<b/\aR wr 27 b) zs (l.take q)
 len:zs.length=q
omit[Base]in
theorem tK.after {rk xb tb n q:Nat} {W2 wr w5:World} {X:TV} {parts:Nat} {l:List Tm} {zs:List TV} (h:tK gb sb rk xb tb n u W2 X parts l wr q zs) (hf:Fr (fun k=>k=gb) wr.drew w5) (hq:q<n):
 aS w5 u.heap.size 27 4 aJ (al tb n n) (zs++List.replicate (n-q) eV)/\(zs++List.replicate (n-q) eV)[q]?=some eV/\w5.cell? (ak tb (q*4))=some (ae 0)/\w5.cell? (ak tb (q*4+1))=some (ae 0)/\w5.cell? (ak tb (q*4+2))=some ai/\w5.cell? (ak tb (q*4+3))=some aj/\(∀o,w5.frozen? ⟨tb,o,none⟩=false)/\tb<w5.heap.size:=by
 have hty:aR wr 27 tb:=h.row.ty rfl
 have hne:tb≠gb:=hty.ne (t':=385) ⟨_,h.ge⟩ (by decide)
 have hk:=hf.block tb hty.lt hne
 have hr:=h.row.keep (w':=w5) fun k hk'=>by
  have e:tb=k:=Option.some.inj hk'
  rw[<-e]
  exact hk
 have hz:(zs++List.replicate (n-q) eV)[q]?=some eV:=by
  rw[List.getElem?_append_right (by rw[h.len];exact aC),h.len,Nat.sub_self,List.getElem?_replicate,if_pos (by omega)]
 obtain⟨g,cap,e,-,-,-,hc⟩:=hr.cells bh (fun e=>by rw[e]at hz;cases hz)
 injection e with e
 injection e with e
 injection e with e
 subst e
 obtain⟨iy,h0⟩:=hty.keep hk
 exact⟨hr,hz,(hc q eV hz 0 _ rfl).1,(hc q eV hz 1 _ rfl).1,(hc q eV hz 2 _ rfl).1,(hc q eV hz 3 _ rfl).1,fun o=>by simp[World.frozen?,h0],Nat.lt_of_lt_of_le hty.lt hf.size⟩
omit[Base]in
theorem tK.next {rk xb tb n q:Nat} {W2 wr w5:World} {X y:TV} {parts:Nat} {l:List Tm} {zs:List TV} {s:Tm} (h:tK gb sb rk xb tb n u W2 X parts l wr q zs) (hf:Fr (fun k=>k=gb) wr.drew w5) (ht:aI w5 (fL wr.drew.heap.size w5) y s) (hg:jR gb sb w5 (parts+1+Tm.sizes (l.take q)+s.size)) (hs:l[q]?=some s) (hq:q<n)
 (hr:aS w5 u.heap.size 27 4 aJ (al tb n n) (zs++List.replicate (n-q) eV)) (hz:(zs++List.replicate (n-q) eV)[q]?=some eV) (hxt:xb<tb) (hrx:rk<xb):
 tK gb sb rk xb tb n u W2 X parts l ((((w5.setCell (ak tb (q*4)) (ae y.k)).setCell (ak tb (q*4+1)) (ae y.n)).setCell (ak tb (q*4+2)) (af y.s)).setCell (ak tb (q*4+3)) (.slice y.A y.len y.cap)) (q+1) (zs++[y]):=by
 have hty:aR wr 27 tb:=h.row.ty rfl
 have hgt:aR wr.drew 385 gb:=⟨_,h.ge⟩
 have hne:gb≠tb:=fun e=>hty.ne (t':=385) ⟨_,h.ge⟩ (by decide) e.symm
 have hut:=(h.row.lt tb rfl).1
 have hset:∀b,b≠tb->((((w5.setCell (ak tb (q*4)) (ae y.k)).setCell (ak tb (q*4+1)) (ae y.n)).setCell (ak tb (q*4+2)) (af y.s)).setCell (ak tb (q*4+3)) (.slice y.A y.len y.cap)).heap[b]?=w5.heap[b]?:=fun b hb=>by
  rw[av _ _ _ _ hb,av _ _ _ _ hb,av _ _ _ _ hb,av _ _ _ _ hb]
 have htb5:aR w5 27 tb:=hty.keep (hf.block tb hty.lt (Ne.symm hne))
 have hT:∀b,aR wr 27 b->w5.heap[b]?=wr.heap[b]?:=fun b hb=>hf.block b hb.lt (hb.ne (t':=385) ⟨_,h.ge⟩ (by decide))
 have htf5:eL 0 [385,27] wr.drew w5:=⟨hf.weak fun k e=>⟨Nat.zero_le _,385,by decide,by rw[e];exact hgt⟩⟩
 have hty1:∀ {w:World} (p:Addr) (v:Value),aR w 27 tb->p.block=tb->aR (w.setCell p v) 27 tb:=fun {w} p v hb e=>by
  obtain⟨iy,h0⟩:=hb
  obtain⟨pb,po,pl⟩:=p
  simp only at e
  subst e
  cases pl with
  |none=>exact⟨_,aK h0 v⟩
  |some m=>exact⟨_,by simp[World.setCell,Array.getElem?_modify,h0];rfl⟩
 refine⟨?_,?_,?_,?_,?_,?_,?_,by rw[List.length_append,h.len];rfl⟩
 ·have e:parts+1+Tm.sizes (l.take (q+1))=parts+1+Tm.sizes (l.take q)+s.size:=by
   rw[List.take_add_one,hs]
   have:=iS (l.take q) s
   simp only[Option.toList_some]
   omega
  rw[e]
  exact(hset gb hne).trans hg
 ·exact((((h.fr.drew.trans hf).setCell (p:=(ak tb (q*4))) (.inr hut) _).setCell (p:=(ak tb (q*4+1))) (.inr hut) _).setCell (p:=(ak tb (q*4+2))) (.inr hut) _).setCell (p:=(ak tb (q*4+3))) (.inr hut) _
 ·have h1:=hty1 ⟨tb,q*4,none⟩ (ae y.k) htb5 rfl
  have h2:=hty1 ⟨tb,q*4+1,none⟩ (ae y.n) h1 rfl
  have h3:=hty1 ⟨tb,q*4+2,none⟩ (af y.s) h2 rfl
  exact((((h.tf.drew.trans htf5).set (p:=(ak tb (q*4))) htb5 (by decide) (Nat.zero_le _) _).set (p:=(ak tb (q*4+1))) h1 (by decide) (Nat.zero_le _) _).set (p:=(ak tb (q*4+2))) h2 (by decide) (Nat.zero_le _) _).set (p:=(ak tb (q*4+3))) h3 (by decide) (Nat.zero_le _) _
 ·exact(hset rk (by omega)).trans ((hT rk ⟨_,h.rk⟩).trans h.rk)
 ·exact(hset xb (by omega)).trans ((hT xb ⟨_,h.xb⟩).trans h.xb)
 ·have h1:=rY hr y hz
  have h2:(zs++List.replicate (n-q) eV).set q y=zs++[y]++List.replicate (n-(q+1)) eV:=by
   rw[List.set_append_right _ _ (by rw[h.len];exact aC),h.len,Nat.sub_self,show n-q=(n-(q+1))+1 by omega,List.replicate_succ,List.set_cons_zero,List.append_assoc]
   rfl
  rw[h2]at h1
  exact h1
 ·rw[List.take_add_one,hs]
  have hlt:tb<wr.heap.size:=hty.lt
  refine(h.ts.keep (fun b hb=>⟨hb.1,hb.2.keep ((hset b (by omega)).trans (hT b hb.2))⟩) fun b hb=>(hset b (by omega)).trans (hT b hb.2)).snoc ?_
  have hd:wr.drew.heap.size=wr.heap.size:=rfl
  exact ht.keep (fun b hb=>⟨by have:=hb.1;omega,hb.2.keep (hset b (by have:=hb.1;omega))⟩) fun b hb=>hset b (by have:=hb.1;omega)
theorem BI (m:Nat) (hC:EM gb sb room m) (t:Tm) (u:World) (i deep parts:Nat) (hsz:t.size<=m+1) (hs:aL sb room u cv bv xs cs ys) (hg:jR gb sb u parts) (hv:cj cs) (ht:ic cs i t) (hd:deep+t.size<=2001) (hp:parts+t.size<=20000):
 Calls prog 270 #[ah gb,ae (i:Nat),ae (deep:Nat)] u (sO gb sb u parts t):=by
 refine aa fun P hP=>?_
 have HP:=ad hP
 obtain⟨j,c,l,hr,hc,rfl,hl,ha⟩:=jY ht hv
 obtain⟨X,hX⟩:∃X,X=di j c:=⟨_,rfl⟩
 have hXs:X.s.length<=maxLen:=by
  rw[hX]
  obtain⟨g,cap,x,-,-,-,hx,ho,-⟩:=hs.at hc
  exact Cq j c (by rw[<-ho.s];exact ho.short)
 have hX0:=CG j c
 rw[<-hX]at hX0 HP hsz hd hp
 have hsz':1+Tm.sizes l<=m+1:=by simpa only[Tm.size]using hsz
 have hd':deep+(1+Tm.sizes l)<=2001:=by simpa only[Tm.size]using hd
 have hp':parts+(1+Tm.sizes l)<=20000:=by simpa only[Tm.size]using hp
 obtain⟨U,hU⟩:∃U,U=u.alloc (.cells #[ae 0,ae 0,ai,aj] 27):=⟨_,rfl⟩
 have hbU:aE u U:=by rw[hU];exact aB
 have hz:U.heap[u.heap.size]?=some (.cells #[ae 0,ae 0,ai,aj] 27 (0,0)):=by rw[hU];exact az
 have hlg:gb<u.heap.size:=(ap hg).1
 have hgU:jR gb sb U parts:=(hbU.block _ hlg).trans hg
 obtain⟨g0,g1,g2,gf⟩:=km hgU
 have hlgU:gb<U.heap.size:=(ap hgU).1
 have hwp:IntKind.i64.wrap ((parts:Int)+1)=(parts:Int)+1:=IntWalk.i64_in _ (by omega)
 have hwd:IntKind.i64.wrap ((deep:Int)+1)=(deep:Int)+1:=IntWalk.i64_in _ (by omega)
 have hnd:¬((deep:Int)>2000):=by omega
 have hnp:¬((parts:Int)+1>20000):=by omega
 have HV:Hid (∀W,W=U.setCell (ak gb 1) (ae ((parts:Int)+1))->jR gb sb W (parts+1)/\aL sb room W cv bv xs cs ys/\Fr (fun k=>k=gb) u W/\W.heap[u.heap.size]?=some (.cells #[ae 0,ae 0,ai,aj] 27 (0,0))):=ad fun W hW=>by
  rw[hW]
  have h1:Fr (fun k=>k=gb) U (U.setCell (ak gb 1) (ae ((parts:Int)+1))):=(Fr.refl (fun k=>k=gb) U).setCell (p:=(ak gb 1)) (.inl rfl) _
  exact⟨aK hgU _,(hs.later hbU).fr1 hgU h1,(Fr.of_below _ hbU).trans h1,(av _ _ _ _ (by simp only;omega)).trans hz⟩
 have HA:=ad (aD hr (aD hc (aD hl (aD ha hv))))
 have HX:=ad (aD hX (aD hXs hX0))
 have HN:=ad (aD hsz' (aD hd' hp'))
 have HM:=ad hC
 have har:=hs.ar j c hc
 clear hP hs hg hv ht hsz hd hp hr hc hl ha hXs hX0 hX hsz' hd' hp' hC hbU hz hgU
 go_enter func270,ntmps270
 go_upto_region 1 with fail
 rw[<-hU]
 clear hU
 go_wp2_with fail
 obtain⟨V,hV⟩:∃V,V=U.setCell (ak gb 1) (ae ((parts:Int)+1)):=⟨_,rfl⟩
 rw[<-hV]
 have HV:=ad (HV.out V hV)
 clear hV g0 g1 g2 gf hlgU hwp hnp hnd
 obtain⟨rk,hrk⟩:∃rk,rk=u.heap.size:=⟨_,rfl⟩
 rw[<-hrk]at HV⊢
 have HRK:=ad hrk
 clear hrk
 refine(fD HV.2.1 HA.1).mono ?_
 rintro e w1 ⟨rfl,rfl⟩
 obtain⟨g0,-,-,-⟩:=km HV.1
 have hlV:gb<V.heap.size:=(ap HV.1).1
 go_wp2_with fail
 refine(oO HV.2.1 HA.2.1).mono ?_
 rintro e W1 ⟨rfl,hb1⟩
 rw[<-HX.1]
 obtain⟨W2,hW2⟩:∃W,W=W1.alloc (.cells #[ae X.k,ae X.n,af X.s,.slice X.A X.len X.cap] 27):=⟨_,rfl⟩
 obtain⟨xb,hxb⟩:∃xb,xb=W1.heap.size:=⟨_,rfl⟩
 have hb2:aE V W2:=by rw[hW2];exact hb1.alloc hb1.size _
 have H2:Hid (jR gb sb W2 (parts+1)/\aL sb room W2 cv bv xs cs ys/\Fr (fun k=>k=gb) u W2/\W2.heap[rk]?=some (.cells #[ae 0,ae 0,ai,aj] 27 (0,0))/\W2.heap[xb]?=some (.cells #[ae X.k,ae X.n,af X.s,.slice X.A X.len X.cap] 27 (0,0))/\rk<xb/\u.heap.size<=rk):=ad (by
  have hl:=(ap HV.2.2.2).1
  refine⟨(hb2.block _ hlV).trans HV.1,HV.2.1.later hb2,HV.2.2.1.step hb2,(hb2.block _ hl).trans HV.2.2.2,by rw[hW2,hxb];exact az,?_,by rw[HRK.out];exact aC⟩
  rw[hxb]
  exact Nat.lt_of_lt_of_le hl hb1.size)
 clear hb2 hb1
 unfold aU
 go_upto_region 8 with fail
 rw[<-hW2,<-hxb]
 clear hW2 hxb g0 hlV
 obtain⟨g,cap,x,hcv,-,hgl,-,-,-,-,-,-,d3,-,-⟩:=H2.2.1.at HA.2.1
 obtain⟨-,s1,-,-⟩:=H2.2.1.cells
 rw[hcv]at s1
 have HAR:Hid (bn W2 x.A c.args):=ad (by
  obtain⟨g',cap',x',hcv',-,-,hx',ho',-,-,-,-,d3',-,-⟩:=H2.2.1.at HA.2.1
  have e:=hcv.symm.trans hcv'
  injection e with e1 e2 e3
  injection e1 with e1
  injection e1 with e1
  subst e1
  rw[d3]at d3'
  injection d3' with d3'
  injection d3' with q1 q2 q3
  rw[q1]
  exact ho'.args)
 obtain⟨n,hn⟩:∃n,n=c.args.length:=⟨_,rfl⟩
 have HNN:=ad hn
 rw[<-hn]at d3 har
 obtain⟨g0,-,-,-⟩:=km H2.1
 obtain⟨r0,r1,r2,r3,rf⟩:=aH H2.2.2.2.1
 obtain⟨x0,x1,x2,x3,xf⟩:=aH H2.2.2.2.2.1
 have hl2:gb<W2.heap.size:=(ap H2.1).1
 have hls:=H2.2.1.lt
 have hlr:rk<W2.heap.size:=(ap H2.2.2.2.1).1
 have hlx:xb<W2.heap.size:=(ap H2.2.2.2.2.1).1
 have hj1:(j:Int)<(cs.length:Int):=by have:=(aq HA.2.1).1;omega
 have hj0:(0:Int)<=(j:Int):=by omega
 have hrx:rk≠xb:=by have:=H2.2.2.2.2.2.1;omega
 have hxr:xb≠rk:=Ne.symm hrx
 clear hcv hn
 by_cases hn0:n=0
 ·subst hn0
  have HQ:Hid (P (.returned (.tuple #[aU X,ae 0])) ((((W2.setCell (ak rk 0) (ae X.k)).setCell (ak rk 1) (ae X.n)).setCell (ak rk 2) (af X.s)).setCell (ak rk 3) (.slice X.A X.len X.cap))):=ad (by
   have hl:l=[]:=List.eq_nil_of_length_eq_zero (HA.2.2.1.trans HNN.symm)
   subst hl
   obtain⟨e1,e2,e3⟩:=uG (y:=X) (t:=.mk X.k X.n X.s []) H2.1 H2.2.2.1 H2.2.2.2.1 H2.2.2.2.2.2.2 (by
    have:=aI.leaf W2 (fun b=>fL u.heap.size W2 b/\b≠rk) X.k X.n X.s X.A X.cap HX.2.1
    rwa[show(⟨X.k,X.n,X.s,X.A,0,X.cap⟩:TV)=X by rw[<-HX.2.2.2.1]]at this)
   rw[HP.out]
   exact⟨X,rfl,e1,by simpa only[Tm.size,Tm.sizes]using e2,e3⟩)
  obtain⟨WF,hWF⟩:∃WF,WF=((((W2.setCell (ak rk 0) (ae X.k)).setCell (ak rk 1) (ae X.n)).setCell (ak rk 2) (af X.s)).setCell (ak rk 3) (.slice X.A X.len X.cap)):=⟨_,rfl⟩
  have hf:=bc H2.2.2.2.1 rfl (ae X.k) (ae X.n) (af X.s) (.slice X.A X.len X.cap)
  rw[<-hWF]at HQ hf
  have HWF:=ad hWF
  clear hWF
  go_wp2_with fail
  rw[<-HWF.out]
  obtain⟨f0,f1,f2,f3,-⟩:=aH hf
  exact bodyPost_ret (v:=.tuple #[aU X,ae 0]) (by simp[results,results270,go_sem,f0,f1,f2,f3,aU]) rfl HQ.out
 ·have b1:((n:Int)==0)=false:=beq_eq_false_iff_ne.2 (by omega)
  have hmk:=gH W2 n (by omega)
  obtain⟨W3,hW3⟩:∃W,W=W2.alloc (.cells ((List.replicate n eV).flatMap aJ).toArray 27):=⟨_,rfl⟩
  obtain⟨tb,htb⟩:∃tb,tb=W2.heap.size:=⟨_,rfl⟩
  have hb3:aE W2 W3:=by rw[hW3];exact aB
  have HI0:Hid (tK gb sb rk xb tb n u W2 X parts l (W3.setCell (ak xb 3) (al tb n n)) 0 []/\xb<tb):=ad (by
   have hx9:xb<tb:=by rw[htb];exact hlx
   have hux:u.heap.size<=xb:=by have:=H2.2.2.2.2.2.1;have:=H2.2.2.2.2.2.2;omega
   have hne:gb≠xb:=by omega
   have h3x:=(hb3.block _ hlx).trans H2.2.2.2.2.1
   have htf:eL 0 [385,27] W2 (W3.setCell (ak xb 3) (al tb n n)):=((eL.refl _ _).later hb3).set (p:=(ak xb 3)) (t:=27) ⟨_,h3x⟩ (by decide) (Nat.zero_le _) _
   refine⟨⟨?_,(H2.2.2.1.step hb3).setCell (p:=(ak xb 3)) (.inr hux) _,htf,?_,?_,?_,?_,rfl⟩,hx9⟩
   ·rw[List.take_zero]
    exact(av _ _ _ _ hne).trans ((hb3.block _ hl2).trans H2.1)
   ·exact(av _ _ _ _ hrx).trans ((hb3.block _ hlr).trans H2.2.2.2.1)
   ·rw[aK h3x]
    rfl
   ·rw[List.nil_append,Nat.sub_zero,htb]
    have h1:=o9 W2 u.heap.size n H2.2.2.1.size (by omega)
    rw[<-hW3]at h1
    exact h1.keep fun k hk=>av _ _ _ _ (by have e:W2.heap.size=k:=Option.some.inj hk;simp only;omega)
   ·rw[List.take_zero]
    exact ct.nil _ _)
  rw[<-hW3,<-htb]at hmk
  have x3':W3.cell? (ak xb 3)=some (.slice X.A X.len X.cap):=(World.cell?_of_block (w:=W2) (a:=⟨xb,3,none⟩) (hb3.block _ hlx)).trans x3
  have xf':∀o,W3.frozen? ⟨xb,o,none⟩=false:=fun o=>(World.frozen?_of_block (w:=W2) (a:=⟨xb,o,none⟩) (hb3.block _ hlx)).trans (xf o)
  have hlx3:xb<W3.heap.size:=Nat.lt_of_lt_of_le hlx hb3.size
  clear hW3 htb hb3
  go_wp2_with fail
  clear hmk x3' xf' hlx3 x0 x1 x2 x3 xf r0 r1 r2 r3 rf g0 s1 d3 hlx hlr hls hl2 b1
  have HNX0:=ad (aD hrx hxr)
  clear hrx hxr
  go_loopw [62] (fun i wr=>∃(q:Nat) (zs:List TV),i=ae (q:Nat)/\q<=n/\Hid (tK gb sb rk xb tb n u W2 X parts l wr q zs)) (fun i _=>n-(intOf i).toNat)
  case atStart=>exact⟨0,[],rfl,Nat.zero_le _,ad HI0.1⟩
  case round=>
   obtain⟨q,zs,rfl,hq,HI⟩:=hrel
   have HXT:=ad HI0.2
   clear HI0
   by_cases hlt:q<n
   ·obtain⟨a,ha⟩:∃a,c.args[q]?=some a:=⟨_,au (by rw[<-HNN.out];exact hlt)⟩
    obtain⟨s,hs⟩:∃s,l[q]?=some s:=⟨_,au (by rw[HA.2.2.1,<-HNN.out];exact hlt)⟩
    obtain⟨b,off,eA,hb,q9⟩:=(HAR.keep (u':=wr) fun b hb=>HI.tf.block hb (by decide)).at' q a ha
    have hbl:=hb.lt
    have hlt1:(q:Int)<(n:Int):=by omega
    have hge:(0:Int)<=(q:Int):=by omega
    have hwq:IntKind.i64.wrap ((q:Int)+1)=(q:Int)+1:=IntWalk.i64_in _ (by omega)
    have HAQ:=ad (aD ha hs)
    have HSZ:Hid (Tm.sizes (l.take (q+1))=Tm.sizes (l.take q)+s.size/\Tm.sizes (l.take q)+s.size<=Tm.sizes l):=ad (by
     have h1:Tm.sizes (l.take (q+1))=Tm.sizes (l.take q)+s.size:=by
      rw[List.take_add_one,hs]
      exact iS _ _
     exact⟨h1,by rw[<-h1];exact fS _ _⟩)
    have HSL:Hid (∀v,Fr (fun k=>k=gb\/k=tb) wr v->v.cell? (ak xb 3)=some (al tb n n)):=ad fun v hv=>by
     have h1:=(ap HI.xb).1
     have h2:xb≠gb:=fun e=>by
      have h3:=HI.ge
      unfold jR at h3
      rw[<-e,HI.xb]at h3
      injection h3 with h3
      injection h3 with _ h3
      exact absurd h3 (by decide)
     have h4:=hv.block xb h1 (fun e=>by have:=HXT.out;rcases e with e|e;exact h2 e;omega)
     rw[cell_of_row v xb 3 _ _ (0,0) (h4.trans HI.xb)]
     rfl
    have HCL:Hid (Calls prog 270 #[ah gb,ae (a:Nat),ae ((deep:Int)+1)] wr.drew (sO gb sb wr.drew (parts+1+Tm.sizes (l.take q)) s)):=ad (HM.out s wr.drew a (deep+1) (parts+1+Tm.sizes (l.take q)) cv bv xs cs ys (by have:=HSZ.2;have:=HN.1;omega) (H2.2.1.tf HI.tf.drew (by decide)) HI.ge HA.2.2.2.2 (HA.2.2.2.1 q a s ha hs) (by have:=HSZ.2;have:=HN.2.1;omega) (by have:=HSZ.2;have:=HN.2.2;omega))
    have hlg2:gb<wr.heap.size:=(ap HI.ge).1
    have hlx2:xb<wr.heap.size:=(ap HI.xb).1
    rw[eA]
    clear ha hs hb
    go_wp2_with fail
    go_region_held3 (fun v=>v.cell? (ak xb 3)=some (al tb n n))
     (first|(with_reducible exact HSL.out _ (Fr.refl _ _))|(with_reducible exact HSL.out _ (Fr.refl _ _).drew)|(with_reducible exact HSL.out _ ((Fr.refl _ _).drew.trans (hf5.weak fun _ e=>.inl e)))|exact HSL.out _ ((((((Fr.refl _ _).drew.trans (hf5.weak fun _ e=>.inl e)).setCell (p:=(ak tb (q*4))) (.inl (.inr rfl)) _).setCell (p:=(ak tb (q*4+1))) (.inl (.inr rfl)) _).setCell (p:=(ak tb (q*4+2))) (.inl (.inr rfl)) _).setCell (p:=(ak tb (q*4+3))) (.inl (.inr rfl)) _))
     (first|(go_at_call 270;refine HCL.mono ?_;rintro e w5 ⟨y,rfl,ht5,hg5,hf5⟩;unfold aU;obtain⟨hr5,hz5,q0,q1,q2,q3,qf,hlt5⟩:=HI.after hf5 (by omega)))
    have HNX:=ad (HI.next hf5 ht5 hg5 HAQ.2 (by omega) hr5 hz5 HXT.out H2.2.2.2.2.2.1)
    clear hr5 hz5 q0 q1 q2 q3 qf hlt5 ht5 hg5 hf5
    go_wp2_with fail
    go_roundw
    case rel=>exact⟨q+1,zs++[y],rfl,by omega,HNX⟩
    case measure=>
     simp only[intOf]
     omega
   ·obtain rfl:q=n:=by omega
    have hng:¬(q:Int)<(q:Int):=by omega
    obtain⟨Y,hY⟩:∃Y:TV,Y=⟨X.k,X.n,X.s,some (ak tb 0),q,q⟩:=⟨_,rfl⟩
    obtain⟨r0,r1,r2,r3,rf⟩:=aH HI.rk
    obtain⟨x0,x1,x2,x3,xf⟩:=aH HI.xb
    have hlr:rk<wr.heap.size:=(ap HI.rk).1
    have hlx:xb<wr.heap.size:=(ap HI.xb).1
    have hrx:=HNX0.1
    have hxr:=HNX0.2
    have HQ:Hid (P (.returned (.tuple #[aU Y,ae 0])) ((((wr.setCell (ak rk 0) (ae Y.k)).setCell (ak rk 1) (ae Y.n)).setCell (ak rk 2) (af Y.s)).setCell (ak rk 3) (.slice Y.A Y.len Y.cap))):=ad (by
     have htk:l.take q=l:=List.take_of_length_le (by rw[HA.2.2.1,<-HNN.out];exact aC)
     have hrow:=HI.row
     rw[Nat.sub_self,List.replicate_zero,List.append_nil]at hrow
     have hts:=HI.ts
     have hge:=HI.ge
     rw[htk]at hts hge
     have h1:=H2.2.2.2.2.2
     have h2:=HXT.out
     have ht:=ct.comp (S:=fun b=>fL u.heap.size wr b/\b≠rk) (hts.keep (fun b hb=>⟨⟨by have:=hb.1;omega,hb.2⟩,by have:=hb.1;omega⟩) fun _ _=>rfl) hrow rfl (fun g hg=>by
      have e:tb=g:=Option.some.inj hg
      rw[<-e]
      exact⟨⟨by omega,hrow.ty rfl⟩,by omega⟩) X.s HX.2.1 X.k X.n
     rw[<-hY]at ht
     obtain⟨e1,e2,e3⟩:=uG hge HI.fr HI.rk h1.2 ht
     rw[HP.out]
     refine⟨Y,rfl,e1,?_,e3⟩
     have e4:parts+(Tm.mk X.k X.n X.s l).size=parts+1+Tm.sizes l:=by simp only[Tm.size];omega
     rw[e4]
     exact e2)
    obtain⟨WF,hWF⟩:∃WF,WF=((((wr.setCell (ak rk 0) (ae Y.k)).setCell (ak rk 1) (ae Y.n)).setCell (ak rk 2) (af Y.s)).setCell (ak rk 3) (.slice Y.A Y.len Y.cap)):=⟨_,rfl⟩
    have hf:=bc HI.rk rfl (ae Y.k) (ae Y.n) (af Y.s) (.slice Y.A Y.len Y.cap)
    rw[<-hWF]at HQ hf
    rw[hY]at hWF hf HQ
    have HWF:=ad hWF
    have HF4:=ad hf
    clear hWF hY hlt hf
    go_wp2_with fail
    rw[<-HWF.out]
    obtain⟨f0,f1,f2,f3,-⟩:=aH HF4.out
    exact bodyPost_ret (v:=.tuple #[aU ⟨X.k,X.n,X.s,some (ak tb 0),q,q⟩,ae 0]) (by simp[results,results270,go_sem,f0,f1,f2,f3,aU]) rfl HQ.out
theorem uA (gb sb room:Nat):∀n,EM gb sb room n
 |0=>fun t u i deep parts cv bv xs cs ys hs _ _ _ _ _ _=>by
  obtain⟨k,n,s,l⟩:=t
  simp only[Tm.size]at hs
  omega
 |n+1=>fun t u i deep parts cv bv xs cs ys hsz hs hg hv ht hd hp=>BI n (uA gb sb room n) t u i deep parts hsz hs hg hv ht hd hp
end
end
end Go.Proofs.YtigeofkllldilaaGreatDoor
namespace Go.Proofs
open Go.Shelf
def Tryz.lays106_ren:Go.Shelf.Ren:=⟨fun|106=>44|213=>110|265=>213|n=>n,fun|9=>9|3=>3|n=>n,fun|n=>n⟩
theorem Tryz.lays106:Go.Proofs.Lays.n106 prog Tryz.lays106_ren:= {
 mixed:=by kernel_rfl
 f106:=func44.trans (congrArg some (by kernel_rfl))
 f213:=func110.trans (congrArg some (by kernel_rfl))
 f265:=func213.trans (congrArg some (by kernel_rfl))
 t3:=underlying3
 a3:=Tryz.isAgg3
 z3:=Tryz.sizeOf3
 v3:=Tryz.zeroValue3
 t9:=underlying9
 a9:=Tryz.isAgg9
 z9:=Tryz.sizeOf9
 v9:=Tryz.zeroValue9}
open Go.RowKit in
theorem Tryz.strings_Compare (a b:ByteArray) (w:World):
 Calls prog 44 #[.string a,.string b] w fun e w'=>e=.returned (ae (Lib.compareBytes a.data.toList b.data.toList))/\w'=w:=Any.strings_Compare Tryz.lays106 a b w
def Tryz.lays122_ren:Go.Shelf.Ren:=⟨fun|122=>45|215=>111|n=>n,fun|3=>3|4=>4|n=>n,fun|n=>n⟩
theorem Tryz.lays122:Go.Proofs.Lays.n122 prog Tryz.lays122_ren:= {
 mixed:=by kernel_rfl
 f122:=func45.trans (congrArg some (by kernel_rfl))
 f215:=func111.trans (congrArg some (by kernel_rfl))
 t3:=underlying3
 a3:=Tryz.isAgg3
 z3:=Tryz.sizeOf3
 v3:=Tryz.zeroValue3
 t4:=underlying4
 a4:=Tryz.isAgg4
 z4:=Tryz.sizeOf4
 v4:=Tryz.zeroValue4}
open Go.RowKit in
theorem Tryz.cmp_Compare_int (x y:Int) (w:World):
 Calls prog 45 #[ae x,ae y] w fun e w'=>e=.returned (ae (Lib.compareInt x y))/\w'=w:=Any.cmp_Compare_int Tryz.lays122 x y w
def Tryz.lays157_ren:Go.Shelf.Ren:=⟨fun|157=>31|229=>67|199=>68|261=>143|311=>234|312=>235|n=>n,fun|9=>9|31=>93|3=>3|5=>5|4=>4|119=>161|0=>0|40=>163|152=>223|21=>21|154=>225|51=>226|141=>228|196=>325|193=>322|198=>328|49=>326|194=>323|201=>331|226=>422|46=>196|227=>423|n=>n,fun|0=>1|6=>2|n=>n⟩
theorem Tryz.lays157:Go.Proofs.Lays.n157 prog Tryz.lays157_ren:= {
 mixed:=by kernel_rfl
 f157:=func31.trans (congrArg some (by kernel_rfl))
 f199:=func68.trans (congrArg some (by kernel_rfl))
 f229:=func67.trans (congrArg some (by kernel_rfl))
 f261:=func143.trans (congrArg some (by kernel_rfl))
 f311:=func234.trans (congrArg some (by kernel_rfl))
 f312:=func235.trans (congrArg some (by kernel_rfl))
 t0:=underlying0
 a0:=Tryz.isAgg0
 z0:=Tryz.sizeOf0
 v0:=Tryz.zeroValue0
 t3:=underlying3
 a3:=Tryz.isAgg3
 z3:=Tryz.sizeOf3
 v3:=Tryz.zeroValue3
 t4:=underlying4
 a4:=Tryz.isAgg4
 z4:=Tryz.sizeOf4
 v4:=Tryz.zeroValue4
 t5:=underlying5
 a5:=Tryz.isAgg5
 z5:=Tryz.sizeOf5
 v5:=Tryz.zeroValue5
 t9:=underlying9
 a9:=Tryz.isAgg9
 z9:=Tryz.sizeOf9
 v9:=Tryz.zeroValue9
 t21:=underlying21
 a21:=Tryz.isAgg21
 z21:=Tryz.sizeOf21
 v21:=Tryz.zeroValue21
 t31:=underlying93
 a31:=Tryz.isAgg93
 z31:=Tryz.sizeOf93
 v31:=Tryz.zeroValue93
 t40:=underlying163
 a40:=Tryz.isAgg163
 z40:=Tryz.sizeOf163
 v40:=Tryz.zeroValue163
 t46:=underlying196
 a46:=Tryz.isAgg196
 z46:=Tryz.sizeOf196
 v46:=Tryz.zeroValue196
 t49:=underlying326
 a49:=Tryz.isAgg326
 z49:=Tryz.sizeOf326
 v49:=Tryz.zeroValue326
 t51:=underlying226
 a51:=Tryz.isAgg226
 z51:=Tryz.sizeOf226
 v51:=Tryz.zeroValue226
 t119:=underlying161
 a119:=Tryz.isAgg161
 z119:=Tryz.sizeOf161
 t141:=underlying228
 a141:=Tryz.isAgg228
 z141:=Tryz.sizeOf228
 v141:=Tryz.zeroValue228
 t152:=underlying223
 a152:=Tryz.isAgg223
 z152:=Tryz.sizeOf223
 v152:=Tryz.zeroValue223
 t154:=underlying225
 a154:=Tryz.isAgg225
 z154:=Tryz.sizeOf225
 v154:=Tryz.zeroValue225
 t193:=underlying322
 a193:=Tryz.isAgg322
 z193:=Tryz.sizeOf322
 v193:=Tryz.zeroValue322
 t194:=underlying323
 a194:=Tryz.isAgg323
 z194:=Tryz.sizeOf323
 v194:=Tryz.zeroValue323
 t196:=underlying325
 a196:=Tryz.isAgg325
 z196:=Tryz.sizeOf325
 v196:=Tryz.zeroValue325
 t198:=underlying328
 a198:=Tryz.isAgg328
 z198:=Tryz.sizeOf328
 v198:=Tryz.zeroValue328
 t201:=underlying331
 a201:=Tryz.isAgg331
 z201:=Tryz.sizeOf331
 v201:=Tryz.zeroValue331
 t226:=underlying422
 a226:=Tryz.isAgg422
 z226:=Tryz.sizeOf422
 v226:=Tryz.zeroValue422
 t227:=underlying423
 a227:=Tryz.isAgg423
 z227:=Tryz.sizeOf423
 v227:=Tryz.zeroValue423
 g0:=by kernel_rfl
 g6:=by kernel_rfl}
open Go.RowKit Go.Lib in
theorem Tryz.strings_Fields (s:ByteArray) (w:World) (hs:s.size<4294967281) (hascii:∀(j:Nat) b,s.data.toList[j]?=some b->b.toNat<128) (htab:Lib.TabIs prog w "strings.asciiSpace" .u8 Lib.asciiSpaceTab):
 Calls prog 31 #[.string s] w fun e w'=>
  e=.returned (al w.heap.size (Lib.fields s.data.toList).length (Lib.fields s.data.toList).length)/\w'=w.alloc (.cells ((Lib.fields s.data.toList).map fun l=>af l).toArray 9):=Any.strings_Fields Tryz.lays157 (by kernel_rfl) (by kernel_rfl) s w hs hascii htab
end Go.Proofs
namespace Go.Proofs.YtigeofkllldilaaGreatDoor
section
open Go.RowKit Go.Maps
def jM (a b:Int):Int:=if a<b then-1 else if b<a then 1 else 0
theorem fp (a b:Int):jM a b=0↔a=b:=by
 unfold jM
 split
 ·constructor
  ·intro h;cases h
  ·intro h;omega
 ·split
  ·constructor
   ·intro h;cases h
   ·intro h;omega
  ·constructor
   ·intro _;omega
   ·intro _;rfl
theorem nE:∀(a b:List UInt8),Lib.compareBytes a b=0↔a=b
 |[],[]=>by simp[Lib.compareBytes]
 |[],_::_=>by simp[Lib.compareBytes]
 |_::_,[]=>by simp[Lib.compareBytes]
 |a::r,b::q=>by
  rw[Lib.compareBytes]
  by_cases h1:a<b
  ·rw[if_pos h1]
   constructor
   ·intro h;cases h
   ·intro h
    injection h with h
    subst h
    exact absurd h1 (by simp)
  ·rw[if_neg h1]
   by_cases h2:b<a
   ·rw[if_pos h2]
    constructor
    ·intro h;cases h
    ·intro h
     injection h with h
     subst h
     exact absurd h2 (by simp)
   ·rw[if_neg h2,nE r q]
    have:a=b:=by
     have h3:¬a.toNat<b.toNat:=h1
     have h4:¬b.toNat<a.toNat:=h2
     exact UInt8.toNat_inj.1 (by omega)
    subst this
    simp
theorem qt (w:World) (x:Int):Calls prog 111 #[ae x] w fun e w'=>e=.returned (.bool false)/\w=w':=by
 have h:(x !=x)=false:=bne_self_eq_false _
 go_enter func111,ntmps111
 go_wp2_with fail
 go_ret
 exact⟨rfl,rfl⟩
theorem pW (w:World) (x:Int):Calls prog 386 #[ae x] w fun e w'=>e=.returned (.bool false)/\w=w':=by
 have h:(x !=x)=false:=bne_self_eq_false _
 go_enter func386,ntmps386
 go_wp2_with fail
 go_ret
 exact⟨rfl,rfl⟩
theorem mc (w:World) (x y:Int):Calls prog 45 #[ae x,ae y] w fun e w'=>e=.returned (ae (jM x y))/\w=w':=by
 unfold jM
 by_cases h1:x<y
 ·rw[if_pos h1]
  go_enter func45,ntmps45
  go_wp2_with (go_at_call 111;refine(qt _ _).mono ?_;rintro e w1 ⟨rfl,rfl⟩)
  go_ret
  exact⟨rfl,rfl⟩
 ·rw[if_neg h1]
  by_cases h2:y<x
  ·rw[if_pos h2]
   go_enter func45,ntmps45
   go_wp2_with (go_at_call 111;refine(qt _ _).mono ?_;rintro e w1 ⟨rfl,rfl⟩)
   go_ret
   exact⟨rfl,rfl⟩
  ·rw[if_neg h2]
   go_enter func45,ntmps45
   go_wp2_with (go_at_call 111;refine(qt _ _).mono ?_;rintro e w1 ⟨rfl,rfl⟩)
   go_ret
   exact⟨rfl,rfl⟩
theorem mj (w:World) (x y:Int):Calls prog 363 #[ae x,ae y] w fun e w'=>e=.returned (ae (jM x y))/\w=w':=by
 unfold jM
 by_cases h1:x<y
 ·rw[if_pos h1]
  go_enter func363,ntmps363
  go_wp2_with (go_at_call 386;refine(pW _ _).mono ?_;rintro e w1 ⟨rfl,rfl⟩)
  go_ret
  exact⟨rfl,rfl⟩
 ·rw[if_neg h1]
  by_cases h2:y<x
  ·rw[if_pos h2]
   go_enter func363,ntmps363
   go_wp2_with (go_at_call 386;refine(pW _ _).mono ?_;rintro e w1 ⟨rfl,rfl⟩)
   go_ret
   exact⟨rfl,rfl⟩
  ·rw[if_neg h2]
   go_enter func363,ntmps363
   go_wp2_with (go_at_call 386;refine(pW _ _).mono ?_;rintro e w1 ⟨rfl,rfl⟩)
   go_ret
   exact⟨rfl,rfl⟩
theorem xj (w:World) (x y:TV):Calls prog 325 #[aU x,aU y] w fun e w'=>∃c:Int,e=.returned (ae c)/\(c=0↔x.k=y.k/\x.len=y.len/\x.n=y.n/\x.s=y.s)/\aE w w':=by
 refine aa fun P hP=>?_
 have HP:=ad hP
 clear hP
 obtain⟨xk,xn,xs,xA,xl,xc⟩:=x
 obtain⟨yk,yn,ys,yA,yl,yc⟩:=y
 simp only at HP
 obtain⟨U,hU⟩:∃U,U=(w.alloc (.cells #[ae xk,ae xn,af xs,.slice xA xl xc] 27)).alloc (.cells #[ae yk,ae yn,af ys,.slice yA yl yc] 27):=⟨_,rfl⟩
 have HB:Hid (aE w U):=ad (by rw[hU];exact aB.alloc (by simp) _)
 have hx:U.heap[w.heap.size]?=some (.cells #[ae xk,ae xn,af xs,.slice xA xl xc] 27 (0,0)):=by
  rw[hU,aw _ _ _ (by simp)]
  exact az
 have hy:U.heap[w.heap.size+1]?=some (.cells #[ae yk,ae yn,af ys,.slice yA yl yc] 27 (0,0)):=by
  rw[hU]
  have:=heap_alloc_new (w.alloc (.cells #[ae xk,ae xn,af xs,.slice xA xl xc] 27)) (.cells #[ae yk,ae yn,af ys,.slice yA yl yc] 27)
  rwa[World.size_alloc]at this
 obtain⟨x0,x1,x2,x3,-⟩:=aH hx
 obtain⟨y0,y1,y2,y3,-⟩:=aH hy
 have hlx:w.heap.size<U.heap.size:=(ap hx).1
 have hly:w.heap.size+1<U.heap.size:=(ap hy).1
 have HF:Hid (∀c:Int,(c=0↔xk=yk/\xl=yl/\xn=yn/\xs=ys)->P (.returned (ae c)) U):=ad fun c hc=>by
  rw[HP.out]
  exact⟨c,rfl,hc,HB.out⟩
 clear hx hy
 unfold aU
 by_cases hk:xk=yk
 case neg=>
  have b1:(jM xk yk==0)=false:=beq_eq_false_iff_ne.2 fun e=>hk ((fp _ _).1 e)
  have HQ:=ad (HF.out (jM xk yk) ⟨fun e=>absurd ((fp _ _).1 e) hk,fun e=>absurd e.1 hk⟩)
  clear hk
  go_enter func325,ntmps325
  go_upto_region 1 with fail
  rw[<-hU]
  clear hU
  go_wp2_with (first|(go_at_call 45;refine(mc _ _ _).mono ?_;rintro e w1 ⟨rfl,rfl⟩)|(go_at_call 363;refine(mj _ _ _).mono ?_;rintro e w1 ⟨rfl,rfl⟩)|(go_at_call 44;refine(Tryz.strings_Compare ⟨xs.toArray⟩ ⟨ys.toArray⟩ _).mono ?_;rintro e w1 ⟨rfl,h9⟩;subst h9))
  exact HQ.out
 have b1:(jM xk yk==0)=true:=beq_iff_eq.2 ((fp _ _).2 hk)
 by_cases hl:xl=yl
 case neg=>
  have b2:(jM (xl:Int) (yl:Int)==0)=false:=beq_eq_false_iff_ne.2 fun e=>hl (by have:=(fp _ _).1 e;omega)
  have HQ:=ad (HF.out (jM (xl:Int) (yl:Int)) ⟨fun e=>absurd (by have:=(fp _ _).1 e;omega) hl,fun e=>absurd e.2.1 hl⟩)
  clear hk hl
  go_enter func325,ntmps325
  go_upto_region 1 with fail
  rw[<-hU]
  clear hU
  go_wp2_with (first|(go_at_call 45;refine(mc _ _ _).mono ?_;rintro e w1 ⟨rfl,rfl⟩)|(go_at_call 363;refine(mj _ _ _).mono ?_;rintro e w1 ⟨rfl,rfl⟩)|(go_at_call 44;refine(Tryz.strings_Compare ⟨xs.toArray⟩ ⟨ys.toArray⟩ _).mono ?_;rintro e w1 ⟨rfl,h9⟩;subst h9))
  exact HQ.out
 have b2:(jM (xl:Int) (yl:Int)==0)=true:=beq_iff_eq.2 ((fp _ _).2 (by rw[hl]))
 by_cases hn:xn=yn
 case neg=>
  have b3:(jM xn yn==0)=false:=beq_eq_false_iff_ne.2 fun e=>hn ((fp _ _).1 e)
  have HQ:=ad (HF.out (jM xn yn) ⟨fun e=>absurd ((fp _ _).1 e) hn,fun e=>absurd e.2.2.1 hn⟩)
  clear hk hl hn
  go_enter func325,ntmps325
  go_upto_region 1 with fail
  rw[<-hU]
  clear hU
  go_wp2_with (first|(go_at_call 45;refine(mc _ _ _).mono ?_;rintro e w1 ⟨rfl,rfl⟩)|(go_at_call 363;refine(mj _ _ _).mono ?_;rintro e w1 ⟨rfl,rfl⟩)|(go_at_call 44;refine(Tryz.strings_Compare ⟨xs.toArray⟩ ⟨ys.toArray⟩ _).mono ?_;rintro e w1 ⟨rfl,h9⟩;subst h9))
  exact HQ.out
 have b3:(jM xn yn==0)=true:=beq_iff_eq.2 ((fp _ _).2 hn)
 have HQ:=ad (HF.out (Lib.compareBytes xs ys) ⟨fun e=>⟨hk,hl,hn,(nE _ _).1 e⟩,fun e=>(nE _ _).2 e.2.2.2⟩)
 clear hk hl hn
 go_enter func325,ntmps325
 go_upto_region 1 with fail
 rw[<-hU]
 clear hU
 go_wp2_with (first|(go_at_call 45;refine(mc _ _ _).mono ?_;rintro e w1 ⟨rfl,rfl⟩)|(go_at_call 363;refine(mj _ _ _).mono ?_;rintro e w1 ⟨rfl,rfl⟩)|(go_at_call 44;refine(Tryz.strings_Compare ⟨xs.toArray⟩ ⟨ys.toArray⟩ _).mono ?_;rintro e w1 ⟨rfl,h9⟩;subst h9))
 exact HQ.out
abbrev Bo:=(TV×TV)×(Tm×Tm)
def fA (z:TV×TV):List Value:=[ae z.1.k,ae z.1.n,af z.1.s,.slice z.1.A z.1.len z.1.cap,ae z.2.k,ae z.2.n,af z.2.s,.slice z.2.A z.2.len z.2.cap]
theorem lp (x:TV×TV):(fA x).length=8:=rfl
theorem xB (x:TV×TV):∀u∈fA x,u.oneCell'=true:=by
 intro u hu
 simp[fA]at hu
 rcases hu with rfl|rfl|rfl|rfl|rfl|rfl|rfl|rfl<;>rfl
theorem xO:∃i z,prog.info? 436=some i/\i.zero=some z/\i.size=8/\i.bytes=112/\z.cells.size=8:=by
 refine⟨_,_,rfl,rfl,?_,?_,?_⟩<;>kernel_rfl
theorem qD {w1:World} {b:Nat} {a0 a1 a2 a3 a4 a5 a6 a7:Value} {t:TypeId} (h:w1.heap[b]?=some (.cells #[a0,a1,a2,a3,a4,a5,a6,a7] t (0,0))):
 w1.cell? (ak b 0)=some a0/\w1.cell? (ak b 1)=some a1/\w1.cell? (ak b 2)=some a2/\w1.cell? (ak b 3)=some a3/\w1.cell? (ak b 4)=some a4/\w1.cell? (ak b 5)=some a5/\w1.cell? (ak b 6)=some a6/\w1.cell? (ak b 7)=some a7/\(∀o,w1.frozen? ⟨b,o,none⟩=false):=
 ⟨by rw[cell_of_row w1 b 0 _ t (0,0) h];rfl,by rw[cell_of_row w1 b 1 _ t (0,0) h];rfl,by rw[cell_of_row w1 b 2 _ t (0,0) h];rfl,by rw[cell_of_row w1 b 3 _ t (0,0) h];rfl,by rw[cell_of_row w1 b 4 _ t (0,0) h];rfl,by rw[cell_of_row w1 b 5 _ t (0,0) h];rfl,by rw[cell_of_row w1 b 6 _ t (0,0) h];rfl,by rw[cell_of_row w1 b 7 _ t (0,0) h];rfl,fun o=>by simp[World.frozen?,h]⟩
def mZ:List Bo->Nat
 |[]=>0
 |z::r=>z.2.1.size+mZ r
theorem gX:∀a b:List Bo,mZ (a++b)=mZ a+mZ b
 |[],b=>by simp[mZ]
 |z::r,b=>by
  have:=gX r b
  simp only[List.cons_append,mZ]
  omega
theorem pZ:∀a:List Bo,mZ a.reverse=mZ a
 |[]=>rfl
 |z::r=>by
  rw[List.reverse_cons,gX,pZ r]
  simp only[mZ]
  omega
theorem mh:∀a:List Bo,a.length<=mZ a
 |[]=>aC
 |z::r=>by
  have:=mh r
  obtain⟨⟨x,y⟩,⟨⟨k,n,s,l⟩,t⟩⟩:=z
  simp only[List.length_cons,mZ,Tm.size]
  omega
structure vo (u:World) (t s:Tm) (gk:Nat) (v:Value) (wr:World) (zs:List Bo):Prop where
 row:aS wr u.heap.size 436 8 fA v (zs.map (·.1))
 ts:∀z∈zs,aI u (aR u 27) z.1.1 z.2.1/\aI u (aR u 27) z.1.2 z.2.2
 eq:(∀z∈zs,z.2.1=z.2.2)↔t=s
 sz:mZ zs<=gk
 few:mZ zs<=1000000
 below:aE u wr
theorem Bi {u:World} {x y:TV} {t s:Tm} (hx:aI u (aR u 27) x t) (hy:aI u (aR u 27) y s) (hh:x.k=y.k/\x.len=y.len/\x.n=y.n/\x.s=y.s):
 ∃za:List Bo,za.length=x.len/\(∀z∈za,aI u (aR u 27) z.1.1 z.2.1/\aI u (aR u 27) z.1.2 z.2.2)/\((∀z∈za,z.2.1=z.2.2)↔t=s)/\mZ za+1=t.size∧
  ∀(i:Nat) z,za[i]?=some z->(∃b off,x.A=some (ak b off)/\aR u 27 b/\∀(j:Nat) v,(aJ z.1.1)[j]?=some v->u.cell? (ak b (off+i*4+j))=some v)/\(∃b off,y.A=some (ak b off)/\aR u 27 b/\∀(j:Nat) v,(aJ z.1.2)[j]?=some v->u.cell? (ak b (off+i*4+j))=some v):=by
 cases hx with
 |mk _ l xs h1 h2 h3 hc ht=>
 cases hy with
 |mk _ r ys g1 g2 g3 gc gt=>
 refine⟨(xs.zip ys).zip (l.zip r),by simp[h1,h2,g1,g2,hh.2.1],fun z hz=>?_,⟨fun h=>?_,fun h z hz=>?_⟩,?_,fun i z hz=>?_⟩
 ·obtain⟨i,e1,e2⟩:=qe hz
  rw[List.getElem?_zip_eq_some]at e1 e2
  exact⟨ht i _ _ e1.1 e2.1,gt i _ _ e1.2 e2.2⟩
 ·have hl:l=r:=List.ext_getElem? fun i=>by
   by_cases hi:i<l.length
   ·obtain⟨a,ha⟩:∃a,l[i]?=some a:=⟨_,au hi⟩
    obtain⟨b,hb⟩:∃b,r[i]?=some b:=⟨_,au (by omega)⟩
    obtain⟨c,hc'⟩:∃c,xs[i]?=some c:=⟨_,au (by omega)⟩
    obtain⟨d,hd⟩:∃d,ys[i]?=some d:=⟨_,au (by omega)⟩
    have:=h ((c,d),(a,b)) (List.mem_of_getElem? (i:=i) (by rw[List.getElem?_zip_eq_some,List.getElem?_zip_eq_some,List.getElem?_zip_eq_some];exact⟨⟨hc',hd⟩,ha,hb⟩))
    rw[ha,hb]
    exact congrArg some this
   ·rw[List.getElem?_eq_none (by omega),List.getElem?_eq_none (by omega)]
  rw[hl,hh.1,hh.2.2.1,hh.2.2.2]
 ·injection h with _ _ _ h
  subst h
  obtain⟨i,-,e2⟩:=qe hz
  rw[List.getElem?_zip_eq_some]at e2
  have:=e2.1.symm.trans e2.2
  exact Option.some.inj this
 ·have:∀(l r:List Tm) (ps:List (TV×TV)),ps.length=l.length->r.length=l.length->mZ (ps.zip (l.zip r))=Tm.sizes l:=by
   intro l
   induction l with
   |nil=>intro r ps _ _;simp[mZ,Tm.sizes]
   |cons a l ih=>
    intro r ps h1 h2
    obtain _|⟨p,ps⟩:=ps
    ·simp at h1
    ·obtain _|⟨b,r⟩:=r
     ·simp at h2
     ·have:=ih r ps (by simpa using h1) (by simpa using h2)
      simp only[List.zip_cons_cons,mZ,Tm.sizes]
      omega
  rw[this l r (xs.zip ys) (by simp;omega) (by omega)]
  simp only[Tm.size]
  omega
 ·rw[List.getElem?_zip_eq_some,List.getElem?_zip_eq_some]at hz
  exact⟨hc i _ hz.1.1,gc i _ hz.1.2⟩
theorem xx {u:World} {x y:TV} {t s:Tm} (hx:aI u (aR u 27) x t) (hy:aI u (aR u 27) y s) (h:t=s):x.k=y.k/\x.len=y.len/\x.n=y.n/\x.s=y.s:=by
 cases hx with
 |mk _ l xs h1 h2 h3 hc ht=>
 cases hy with
 |mk _ r ys g1 g2 g3 gc gt=>
 injection h with e1 e2 e3 e4
 exact⟨e1,by rw[<-h2,<-g2,e4],e2,e3⟩
structure uU (u:World) (x y:TV) (p:Nat) (wr w9:World) (L:List (TV×TV)) (z:TV×TV) (v:Value):Prop where
 row:aS w9 u.heap.size 436 8 fA v (L++[z])
 below:aE u w9
 blk:w9.heap[p]?=some (.cells #[ae x.k,ae x.n,af x.s,.slice x.A x.len x.cap,ae y.k,ae y.n,af y.s,.slice y.A y.len y.cap] 436 (0,0))
 ne:v.ownBlock≠some p
theorem uU.mk' {u wr V w9:World} {x y:TV} {p gg cap2:Nat} {L:List (TV×TV)} {z:TV×TV} {v:Value} {n9:Nat} (hr:aS wr u.heap.size 436 8 fA v L) (hb:aE u wr)
 (hp:wr.heap[p]?=some (.cells #[ae x.k,ae x.n,af x.s,.slice x.A x.len x.cap,ae y.k,ae y.n,af y.s,.slice y.A y.len y.cap] 436 (0,0))) (hne:v.ownBlock≠some p) (hV:aE wr V)
 (hown:w9.ownsRow u.heap.size 436 8 (al gg (L.length+1) cap2) (L.length+1) (L.flatMap fA++fA z)) (hg:V.grownBy w9 v.ownBlock) (hat:v.ownBlock=some gg\/gg=n9) (hn:wr.heap.size<=n9):
 uU u x y p wr w9 L z (al gg (L.length+1) cap2):=by
 have hlp:=(ap hp).1
 refine⟨⟨by rw[List.length_append,List.flatMap_append];simpa using hown⟩,?_,?_,fun e=>?_⟩
 ·have h1:aE u V:=hb.trans (hV.mono hb.size)
  exact h1.grown hg (Nat.le_trans hb.size hV.size) fun k hk=>(hr.lt k hk).1
 ·rw[hg.block p (Nat.lt_of_lt_of_le hlp hV.size) (fun e=>hne e.symm),hV.block p hlp]
  exact hp
 ·have e:gg=p:=Option.some.inj e
  rcases hat with h|h
  ·rw[e]at h
   exact hne h
  ·omega
theorem rN (u:World) (x y:TV) (t s:Tm) (hx:aI u (aR u 27) x t) (hy:aI u (aR u 27) y s) (hm:t.may=true) (hsz:t.size<=100000):
 Calls prog 249 #[aU x,aU y] u fun e u'=>∃c:Int,e=.returned (ae c)/\(c=0↔t=s)/\aE u u':=by
 refine aa fun P hP=>?_
 have HP:=ad hP
 obtain⟨i0,z0,hi0,hz0,hz1,hz2,hz3⟩:=xO
 have HE:Hid (∀w v c,aE u w->vo u t s 0 v w []->c=(0:Int)->P (.returned (ae c)) w):=ad fun w v c hb hc e=>by
  rw[HP.out]
  exact⟨c,rfl,⟨fun _=>hc.eq.1 fun z hz=>(by cases hz),fun _=>e⟩,hb⟩
 have HT:=ad (aD hx (aD hy (aD hm hsz)))
 clear hP hx hy hm hsz
 obtain⟨xk,xn,xs,xA,xl,xc⟩:=x
 obtain⟨yk,yn,ys,yA,yl,yc⟩:=y
 obtain⟨W,hW⟩:∃W,W=((u.alloc (.cells #[ae xk,ae xn,af xs,.slice xA xl xc] 27)).alloc (.cells #[ae yk,ae yn,af ys,.slice yA yl yc] 27)).alloc (.cells #[ae xk,ae xn,af xs,.slice xA xl xc,ae yk,ae yn,af ys,.slice yA yl yc] 436):=⟨_,rfl⟩
 have HI0:Hid (vo u t s t.size (al (u.heap.size+1+1) 1 1) W [((⟨xk,xn,xs,xA,xl,xc⟩,⟨yk,yn,ys,yA,yl,yc⟩),(t,s))]):=ad (by
  refine⟨?_,fun z hz=>?_,?_,by simp[mZ],by simp only[mZ];have:=HT.2.2.2;omega,?_⟩
  ·have:=aS.one (B:=u.heap.size) (e:=436) lp ((u.alloc (.cells #[ae xk,ae xn,af xs,.slice xA xl xc] 27)).alloc (.cells #[ae yk,ae yn,af ys,.slice yA yl yc] 27)) ((⟨xk,xn,xs,xA,xl,xc⟩,⟨yk,yn,ys,yA,yl,yc⟩):TV×TV) (by simp;omega)
   rw[hW]
   simpa[fA]using this
  ·rw[List.mem_singleton]at hz
   rw[hz]
   exact⟨HT.1,HT.2.1⟩
  ·simp
  ·rw[hW]
   exact(aB.alloc (by simp) _).alloc (by simp;omega) _)
 unfold aU
 go_enter func249,ntmps249
 go_upto_region 2 with fail
 rw[<-hW]
 clear hW
 go_loopg [5] t.size (fun gk v wr=>∃zs,Hid (vo u t s gk v wr zs))
 case atStart=>exact⟨_,HI0⟩
 case round=>
  obtain⟨zs,HI⟩:=hrel
  clear HI0
  by_cases hnil:zs=[]
  ·subst hnil
   obtain⟨A2,c2,e2⟩:=HI.row.shape
   rw[List.map_nil,List.length_nil]at e2
   subst e2
   have HQ:Hid (P (.returned (ae 0)) wr):=ad (by
    rw[HP.out]
    exact⟨0,rfl,⟨fun _=>HI.eq.1 fun z hz=>(by cases hz),fun _=>rfl⟩,HI.below⟩)
   go_wp2_with fail
   exact HQ.out
  ·obtain⟨l0,z,rfl⟩:∃l0 p,zs=l0++[p]:=⟨_,_,(List.dropLast_concat_getLast hnil).symm⟩
   obtain⟨⟨x,y⟩,⟨a,b⟩⟩:=z
   have hrow:=HI.row
   rw[List.map_append]at hrow
   obtain⟨g,cap,e1,g1,g2,g3,g4⟩:=hrow.cells lp (by simp)
   have hl0:((l0.map (·.1))++[(x,y)]).length=l0.length+1:=by simp
   have hl0':(List.map (fun x=>x.fst) l0++List.map (fun x=>x.fst) [((x,y),a,b)]).length=l0.length+1:=by simp
   rw[hl0']at e1 g3
   subst e1
   have hget:((l0.map (·.1))++[(x,y)])[l0.length]?=some (x,y):=by
    rw[List.getElem?_append_right (by simp),List.length_map,Nat.sub_self]
    rfl
   have HQC:Hid (∀(j:Nat) v,(fA (x,y))[j]?=some v->wr.cell? (ak g (l0.length*8+j))=some v):=ad fun j v hv=>(g4 l0.length (x,y) hget j v hv).1
   have q0:=HQC.out 0 _ rfl
   have q1:=HQC.out 1 _ rfl
   have q2:=HQC.out 2 _ rfl
   have q3:=HQC.out 3 _ rfl
   have q4:=HQC.out 4 _ rfl
   have q5:=HQC.out 5 _ rfl
   have q6:=HQC.out 6 _ rfl
   have q7:=HQC.out 7 _ rfl
   rw[Nat.add_zero]at q0
   simp only at q0 q1 q2 q3 q4 q5 q6 q7
   have hfl:=mh (l0++[((x,y),a,b)])
   have hfew:=HI.few
   rw[List.length_append,List.length_singleton]at hfl
   have hw1:IntKind.i64.wrap (((l0.length+1:Nat):Int)-1)=(l0.length:Int):=by rw[IntWalk.i64_in _ (by omega)];omega
   have hw2:IntKind.i64.wrap (l0.length:Int)=(l0.length:Int):=IntWalk.i64_in _ (by omega)
   have hn0:(0:Int)<=(l0.length:Int):=by omega
   have hn1:(0:Int)<(l0.length:Int)+1:=by omega
   have hn2:(l0.length:Int)<(l0.length:Int)+1:=by omega
   have hn4:l0.length<l0.length+1:=by omega
   have hn7:l0.length<=cap:=by omega
   have HRW:Hid (aS wr u.heap.size 436 8 fA (al g l0.length cap) (l0.map (·.1))):=ad (by
    have h1:=hrow
    rw[List.map_cons,List.map_nil]at h1
    have h2:=aS.front (x:=(x,y)) lp (l:=l0.map (·.1)) (by rw[List.length_map];exact h1)
    rwa[List.length_map]at h2)
   clear g4 hnil hrow hl0 hl0' hget hfl hfew
   go_wp2_with fail
   obtain⟨V,hV⟩:∃V,V=wr.alloc (.cells #[ae x.k,ae x.n,af x.s,.slice x.A x.len x.cap,ae y.k,ae y.n,af y.s,.slice y.A y.len y.cap] 436):=⟨_,rfl⟩
   have hbV:aE wr V:=by rw[hV];exact aB
   have hpV:V.heap[wr.heap.size]?=some (.cells #[ae x.k,ae x.n,af x.s,.slice x.A x.len x.cap,ae y.k,ae y.n,af y.s,.slice y.A y.len y.cap] 436 (0,0)):=by rw[hV];exact az
   obtain⟨p,hp⟩:∃p,p=wr.heap.size:=⟨_,rfl⟩
   rw[<-hV,<-hp]
   rw[<-hp]at hpV
   have HP9:=ad hp
   clear hV q0 q1 q2 q3 q4 q5 q6 q7 HQC
   have HTS:=ad (HI.ts ((x,y),(a,b)) (List.mem_append_right _ (List.mem_singleton.2 rfl)))
   refine(xj V x y).mono ?_
   rintro e w2 ⟨c,rfl,hc,hb2⟩
   have hbw:aE wr w2:=hbV.trans (hb2.mono hbV.size)
   have hp2:=(hb2.block p (ap hpV).1).trans hpV
   have H2:=ad (aD hp2 (aD (HRW.later hbw) (HI.below.trans (hbw.mono HI.below.size))))
   have hbg:g≠p:=by rw[hp];omega
   clear hp hbV hpV hb2 hbw hp2
   by_cases hc0:c=0
   case neg=>
    have b1:(c !=0)=true:=bne_iff_ne.2 hc0
    have b2:(c==0)=false:=beq_eq_false_iff_ne.2 hc0
    have HQ:Hid (P (.returned (ae c)) w2):=ad (by
     rw[HP.out]
     refine⟨c,rfl,⟨fun e=>absurd e hc0,fun e=>absurd (hc.2 ?_) hc0⟩,H2.2.2⟩
     have e2:a=b:=HI.eq.2 e _ (List.mem_append_right _ (List.mem_singleton.2 rfl))
     exact xx HTS.1 HTS.2 e2)
    clear hc hc0
    go_wp2_with fail
    exact HQ.out
   subst hc0
   obtain⟨za,ha1,ha2,ha3,ha4,ha5⟩:=Bi HTS.1 HTS.2 (hc.1 rfl)
   have hxl:x.len<=1000000:=by
    have h1:=mh za
    have h3:za.length=x.len:=ha1
    have h4:mZ za+1=a.size:=ha4
    have h2:=HI.few
    rw[gX]at h2
    simp only[mZ]at h2
    omega
   have hyl:y.len=x.len:=(hc.1 rfl).2.1.symm
   have HZA:=ad (aD ha1 (aD ha2 (aD ha3 (aD ha4 ha5))))
   clear hc ha1 ha2 ha3 ha4 ha5
   have hwn:IntKind.i64.wrap ((x.len:Int)-1)=(x.len:Int)-1:=IntWalk.i64_in _ (by omega)
   obtain⟨-,-,-,p3,-,-,-,p7,-⟩:=qD H2.1
   have hlp:p<w2.heap.size:=(ap H2.1).1
   obtain⟨wl,hwl⟩:∃wl:World,wl=wr:=⟨_,rfl⟩
   subst hwl
   go_wp2_with fail
   go_loopw [5,8] (fun v i wi=>∃(k:Nat),i=ae ((k:Int)-1)/\k<=x.len/\Hid (aS wi u.heap.size 436 8 fA v ((l0++(za.drop k).reverse).map (·.1))/\aE u wi/\wi.heap[p]?=some (.cells #[ae x.k,ae x.n,af x.s,.slice x.A x.len x.cap,ae y.k,ae y.n,af y.s,.slice y.A y.len y.cap] 436 (0,0))/\v.ownBlock≠some p)) (fun _ i _=>(intOf i+1).toNat)
   case atStart=>exact⟨x.len,rfl,aC,ad ⟨by rw[List.drop_eq_nil_of_le (by rw[HZA.1];exact aC),List.reverse_nil,List.append_nil];exact H2.2.1,H2.2.2,H2.1,fun e=>hbg (Option.some.inj e)⟩⟩
   case round=>
    obtain⟨k,rfl,hk,HJ⟩:=hrel
    obtain _|k:=k
    ·have hng:¬(((0:Nat):Int)-1≥0):=by omega
     have HNX:Hid (gk-1<gk/\vo u t s (gk-1) u5 wr (l0++za.reverse)):=ad (by
      have hsz:=HI.sz
      have hfw:=HI.few
      rw[gX]at hsz hfw
      simp only[mZ]at hsz hfw
      have h4:mZ za+1=a.size:=HZA.2.2.2.1
      refine⟨by omega,⟨by have:=HJ.1;rwa[List.drop_zero]at this,fun z hz=>?_,?_,by rw[gX,pZ];omega,by rw[gX,pZ];omega,HJ.2.1⟩⟩
      ·rcases List.mem_append.1 hz with hz|hz
       ·exact HI.ts z (List.mem_append_left _ hz)
       ·exact HZA.2.1 z (List.mem_reverse.1 hz)
      ·rw[<-HI.eq]
       constructor
       ·intro h z hz
        rcases List.mem_append.1 hz with hz|hz
        ·exact h z (List.mem_append_left _ hz)
        ·rw[List.mem_singleton]at hz
         rw[hz]
         exact HZA.2.2.1.1 fun z hz=>h z (List.mem_append_right _ (List.mem_reverse.2 hz))
       ·intro h z hz
        rcases List.mem_append.1 hz with hz|hz
        ·exact h z (List.mem_append_left _ hz)
        ·exact HZA.2.2.1.2 (h ((x,y),(a,b)) (List.mem_append_right _ (List.mem_singleton.2 rfl))) z (List.mem_reverse.1 hz))
     have hgk:=HNX.1
     go_wp2_with fail
     go_roundg (gk-1)
     case measure=>exact hgk
     case rel=>exact⟨_,ad HNX.2⟩
    ·obtain⟨z,hz⟩:∃z,za[k]?=some z:=⟨_,au (by have h3:za.length=x.len:=HZA.1;omega)⟩
     obtain⟨⟨d1,o1,e1,t1,c1⟩,⟨d2,o2,e2,t2,c2⟩⟩:=HZA.2.2.2.2 k z hz
     obtain⟨⟨zx,zy⟩,⟨za',zb'⟩⟩:=z
     simp only at c1 c2
     have hcell1:∀(j:Nat) v,(aJ zx)[j]?=some v->wr.cell? (ak d1 (o1+k*4+j))=some v:=fun j v hv=>(HJ.2.1.cell (p:=(ak d1 (o1+k*4+j))) t1.lt).trans (c1 j v hv)
     have hcell2:∀(j:Nat) v,(aJ zy)[j]?=some v->wr.cell? (ak d2 (o2+k*4+j))=some v:=fun j v hv=>(HJ.2.1.cell (p:=(ak d2 (o2+k*4+j))) t2.lt).trans (c2 j v hv)
     have x0:=hcell1 0 _ rfl
     have x1:=hcell1 1 _ rfl
     have x2:=hcell1 2 _ rfl
     have x3:=hcell1 3 _ rfl
     have y0:=hcell2 0 _ rfl
     have y1:=hcell2 1 _ rfl
     have y2:=hcell2 2 _ rfl
     have y3:=hcell2 3 _ rfl
     rw[Nat.add_zero]at x0 y0
     obtain⟨-,-,-,r3,-,-,-,r7,-⟩:=qD HJ.2.2.1
     rw[e1]at r3
     rw[e2]at r7
     have hl1:d1<wr.heap.size:=Nat.lt_of_lt_of_le t1.lt HJ.2.1.size
     have hl2:d2<wr.heap.size:=Nat.lt_of_lt_of_le t2.lt HJ.2.1.size
     have hl3:p<wr.heap.size:=(ap HJ.2.2.1).1
     obtain⟨A8,c8,e8⟩:=HJ.1.shape
     subst e8
     have ek:(((k+1:Nat):Int)-1)=(k:Int):=by omega
     have hk0:(0:Int)<=(k:Int):=by omega
     have hk1:(k:Int)<(x.len:Int):=by omega
     have hk2:(k:Int)<(y.len:Int):=by omega
     have hwk1:IntKind.i64.wrap ((k:Int)-1)=(k:Int)-1:=IntWalk.i64_in _ (by omega)
     obtain⟨L,hL⟩:∃L:List (TV×TV),L=(l0++(za.drop (k+1)).reverse).map (·.1):=⟨_,rfl⟩
     rw[<-hL]at HJ⊢
     have HLL:Hid (L=(l0++(za.drop (k+1)).reverse).map (·.1)/\L.length<=2000000):=ad ⟨hL,by
      have h3:za.length=x.len:=HZA.1
      have h5:=mh l0
      have h6:=HI.few
      rw[gX]at h6
      rw[hL,List.length_map,List.length_append,List.length_reverse,List.length_drop]
      omega⟩
     have hLn:=HLL.2
     have hus:=HJ.2.1.size
     have HZ:=ad hz
     rw[ek]
     clear hcell1 hcell2 c1 c2 t1 t2 e1 e2 hz hL
     go_wp2_with fail
     go_region_law
      ((refine step_append_lies _ (by rfl) _ _ _ (by rfl) u.heap.size 436 i0 _ 8 112 underlying437 hi0 hz0 hz1 hz2 hz3 (by omega) _ _ (L.flatMap fA) (by rfl) (aS.later HJ.1 (by(repeat (first|exact aA|refine Below.drew ?_|refine Below.alloc ?_ aC _)))).own
         ⟨wr.heap.size,0,none⟩ 1 1 (fA (zx,zy)) (by rfl) (by rfl) (World.news_of_block (cs:=(fA (zx,zy)).toArray) (t:=436) (fr:=(0,0)) (heap_alloc_new wr _)) (xB _)
         (by omega) (by unfold maxLen;omega) (by omega) (by simp;omega) (wr.heap.size+1) (by simp) ?_;intro gg cap2 w9 hown9 hgrow hat9 hlt9))
     all_goals
      have hNX:uU u x y p wr w9 L (zx,zy) (al gg (L.length+1) cap2):=uU.mk' HJ.1 HJ.2.1 HJ.2.2.1 HJ.2.2.2 (by(repeat (first|exact aA|refine Below.drew ?_|refine Below.alloc ?_ aC _))) hown9 hgrow hat9 (by simp)
      have HNX:=ad hNX
      clear hown9 hgrow hat9 hlt9 hNX
      go_wp2_with fail
      go_roundw
      case rel=>
       refine⟨k,rfl,by omega,ad ⟨?_,HNX.below,HNX.blk,HNX.ne⟩⟩
       obtain⟨hlt,he⟩:=aq HZ.out
       rw[List.drop_eq_getElem_cons hlt,he,List.reverse_cons,<-List.append_assoc,List.map_append,<-HLL.1]
       exact HNX.row
      case measure=>
       simp only[intOf]
       omega
structure eM (nb mb:Nat) (u:World) (m:List (Int×Int)):Prop where
 blk:u.heap[nb]?=some (.cells #[.map (some mb),ae (m.length:Nat)] 338 (0,0))
 map:M6 u mb m
section
variable {nb mb:Nat} {u u':World} {m:List (Int×Int)}
theorem eM.lt (h:eM nb mb u m):nb<u.heap.size:=(ap h.blk).1
theorem eM.keep (h:eM nb mb u m) (h1:u'.heap[nb]?=u.heap[nb]?) (h2:u'.heap[mb]?=u.heap[mb]?):eM nb mb u' m:=⟨h1.trans h.blk,h.map.keep h2⟩
theorem eM.later (h:eM nb mb u m) (hb:aE u u'):eM nb mb u' m:=h.keep (hb.block _ h.lt) (hb.block _ h.map.lt)
theorem eM.cells (h:eM nb mb u m):u.cell? (ak nb 0)=some (.map (some mb))/\u.cell? (ak nb 1)=some (ae (m.length:Nat))/\∀o,u.frozen? ⟨nb,o,none⟩=false:=
 ⟨by rw[cell_of_row u nb 0 _ _ (0,0) h.blk];rfl,by rw[cell_of_row u nb 1 _ _ (0,0) h.blk];rfl,fun o=>by simp[World.frozen?,h.blk]⟩
theorem eM.ne (h:eM nb mb u m) {t:TypeId} {b:Nat} (hb:aR u t b) (ht:t≠338):b≠nb/\b≠mb:=⟨hb.ne (t':=338) ⟨_,h.blk⟩ ht,fun e=>h.map.map.ne hb e.symm⟩
theorem eM.apart (h:eM nb mb u m):nb≠mb:=fun e=>h.map.map.ne (t:=338) ⟨_,h.blk⟩ e.symm
def pA (nb mb:Nat) (u:World) (m:List (Int×Int)) (t:Tm) (e:Ending) (u':World):Prop:=
 ∃y:TV,e=.returned (aU y)/\aI u' (fL u.heap.size u') y (cE t m).1/\eM nb mb u' (cE t m).2/\Fr (fun k=>k=nb\/k=mb) u u'
def EP (nb mb n:Nat):Prop:=∀(t:Tm) (u:World) (x:TV) (m:List (Int×Int)),t.size<=n->aI u (aR u 27) x t->eM nb mb u m->t.may=true->(∀n∈dP t,fP n)->m.length+t.size<=1000000→
 Calls prog 240 #[ah nb,aU x] u (pA nb mb u m t)
theorem pU {W:World} {rk:Nat} {y:TV} {t:Tm} (hg:eM nb mb W m) (hf:Fr (fun k=>k=nb\/k=mb) u W) (hr:W.heap[rk]?=some (.cells #[ae 0,ae 0,ai,aj] 27 (0,0))) (hrk:u.heap.size<=rk) (ht:aI W (fun b=>fL u.heap.size W b/\b≠rk) y t):
 aI ((((W.setCell (ak rk 0) (ae y.k)).setCell (ak rk 1) (ae y.n)).setCell (ak rk 2) (af y.s)).setCell (ak rk 3) (.slice y.A y.len y.cap)) (fL u.heap.size ((((W.setCell (ak rk 0) (ae y.k)).setCell (ak rk 1) (ae y.n)).setCell (ak rk 2) (af y.s)).setCell (ak rk 3) (.slice y.A y.len y.cap))) y t/\eM nb mb ((((W.setCell (ak rk 0) (ae y.k)).setCell (ak rk 1) (ae y.n)).setCell (ak rk 2) (af y.s)).setCell (ak rk 3) (.slice y.A y.len y.cap)) m∧
  Fr (fun k=>k=nb\/k=mb) u ((((W.setCell (ak rk 0) (ae y.k)).setCell (ak rk 1) (ae y.n)).setCell (ak rk 2) (af y.s)).setCell (ak rk 3) (.slice y.A y.len y.cap)):=by
 obtain⟨h1,h2⟩:=hg.ne (t:=27) ⟨_,hr⟩ (by decide)
 refine⟨ht.keep (fun b hb=>⟨hb.1.1,hb.1.2.keep (aM _ _ _ _ hb.2)⟩) fun b hb=>aM _ _ _ _ hb.2,hg.keep (aM _ _ _ _ (Ne.symm h1)) (aM _ _ _ _ (Ne.symm h2)),?_⟩
 exact(((hf.setCell (p:=(ak rk 0)) (.inr hrk) _).setCell (p:=(ak rk 1)) (.inr hrk) _).setCell (p:=(ak rk 2)) (.inr hrk) _).setCell (p:=(ak rk 3)) (.inr hrk) _
theorem CV (u:World) (x:TV) (hk:x.k=1) (hs0:x.s=[]) (hl0:x.len=0) (hn:fP x.n) (h:eM nb mb u m) (hm:m.length+1<=1000000):
 Calls prog 240 #[ah nb,aU x] u (pA nb mb u m (.mk 1 x.n [] [])):=by
 refine aa fun P hP=>?_
 have HP:=ad hP
 obtain⟨k,n,s,A,len,c⟩:=x
 simp only at hk hs0 hl0 hn hP HP
 subst hk hs0 hl0
 obtain⟨U,hU⟩:∃U,U=(u.alloc (.cells #[ae 1,ae n,ai,.slice A 0 c] 27)).alloc (.cells #[ae 0,ae 0,ai,aj] 27):=⟨_,rfl⟩
 obtain⟨xb,hxb⟩:∃xb,xb=u.heap.size:=⟨_,rfl⟩
 obtain⟨rk,hrk⟩:∃rk,rk=u.heap.size+1:=⟨_,rfl⟩
 have hbU:aE u U:=by rw[hU];exact aB.alloc (by simp) _
 have hx:U.heap[xb]?=some (.cells #[ae 1,ae n,ai,.slice A 0 c] 27 (0,0)):=by
  rw[hU,hxb,aw _ _ _ (by simp)]
  exact az
 have hr:U.heap[rk]?=some (.cells #[ae 0,ae 0,ai,aj] 27 (0,0)):=by
  rw[hU,hrk]
  have:=heap_alloc_new (u.alloc (.cells #[ae 1,ae n,ai,.slice A 0 c] 27)) (.cells #[ae 0,ae 0,ai,aj] 27)
  rwa[World.size_alloc]at this
 have HXR:Hid (u.heap.size<=xb/\u.heap.size<=rk/\xb≠rk):=ad (by omega)
 have HU:=ad (aD (h.later hbU) (aD hx (aD hr (Fr.of_below (fun k=>k=nb\/k=mb) hbU))))
 obtain⟨n0,n1,nf⟩:=(h.later hbU).cells
 have hlU:=(h.later hbU).lt
 obtain⟨x0,x1,x2,x3,xf⟩:=aH hx
 have hlx:xb<U.heap.size:=(ap hx).1
 have HEND:Hid (∀(W:World) (a:Int) (m':List (Int×Int)),cE (.mk 1 n [] []) m=(.mk 1 a [] [],m')->eM nb mb W m'->Fr (fun k=>k=nb\/k=mb) u W->W.heap[rk]?=some (.cells #[ae 0,ae 0,ai,aj] 27 (0,0))→
  P (.returned (aU ⟨1,a,[],A,0,c⟩)) (((((W.setCell (ak xb 1) (ae a)).setCell (ak rk 0) (ae 1)).setCell (ak rk 1) (ae a)).setCell (ak rk 2) ai).setCell (ak rk 3) (.slice A 0 c))):=ad fun W a m' he hg hf hz=>by
  have hxt:nb≠xb/\mb≠xb:=⟨by have:=h.lt;omega,by have:=h.map.lt;omega⟩
  obtain⟨e1,e2,e3⟩:=pU (W:=W.setCell (ak xb 1) (ae a)) (rk:=rk) (y:=⟨1,a,[],A,0,c⟩) (t:=.mk 1 a [] []) (hg.keep (av _ _ _ _ hxt.1) (av _ _ _ _ hxt.2)) (hf.setCell (p:=(ak xb 1)) (.inr HXR.1) _) ((av _ _ _ _ (Ne.symm HXR.2.2)).trans hz) HXR.2.1 (aI.leaf _ _ 1 a [] A c (Nat.zero_le _))
  rw[HP.out]
  refine⟨_,rfl,?_,?_,e3⟩
  ·rw[he];exact e1
  ·rw[he];exact e2
 have hadd:IntKind.i64.wrap ((m.length:Int)+1)=(m.length:Int)+1:=IntWalk.i64_in _ (by omega)
 have hok:fP (m.length:Int):=⟨by omega,by omega⟩
 clear hP h hbU hx hr
 unfold aU
 go_enter func240,ntmps240
 go_upto_region 1 with fail
 rw[<-hU,<-hxb,show xb+1=rk by omega]
 clear hU hxb hrk
 go_upto_region 2 with fail
 have HFIN:Hid (∀(W:World) (a:Int),(W.setCell (ak xb 1) (ae a)).heap[rk]?=some (.cells #[ae 0,ae 0,ai,aj] 27 (0,0))->(((((W.setCell (ak xb 1) (ae a)).setCell (ak rk 0) (ae 1)).setCell (ak rk 1) (ae a)).setCell (ak rk 2) ai).setCell (ak rk 3) (.slice A 0 c)).heap[rk]?=some (.cells #[ae 1,ae a,ai,.slice A 0 c] 27 (0,0))):=ad fun W a hz=>bc hz rfl _ _ _ _
 have hrx:rk≠xb:=Ne.symm HXR.2.2
 have hxr:xb≠rk:=HXR.2.2
 cases hg:aP m n with
 |some a=>
  have k1:=(HU.1.map.later aA.drew).look2 n hn
  rw[hg]at k1
  have k1:(Instr.lookup 81 (.map (some mb)) (ae n) true).run prog U.drew=.ok (.tuple #[ae a,.bool true]) U.drew:=k1
  have HE:Hid (cE (.mk 1 n [] []) m=(.mk 1 a [] [],m)):=ad (by rw[cE,if_pos rfl,hg])
  clear hg
  go_region
  obtain⟨V,hV⟩:∃V,V=U.drew:=⟨_,rfl⟩
  have hbV:aE U V:=by rw[hV];exact aA.drew
  rw[<-hV]
  have hxV:=(hbV.block _ hlx).trans HU.2.1
  have hrV:=(hbV.block _ (ap HU.2.2.1).1).trans HU.2.2.1
  have HV:=ad (aD (HU.1.later hbV) (HU.2.2.2.step hbV))
  clear hV hbV k1 n0 n1 nf hlU x0 x1 x2 x3 xf hlx hadd hok
  obtain⟨x0,x1,x2,x3,xf⟩:=aH hxV
  obtain⟨r0,r1,r2,r3,rf⟩:=aH hrV
  have hlx:xb<V.heap.size:=(ap hxV).1
  have hlr:rk<V.heap.size:=(ap hrV).1
  have HQ:=ad (HEND.out V a m HE.out HV.1 HV.2 hrV)
  have HF:=ad (HFIN.out V a ((av _ _ _ _ hrx).trans hrV))
  clear hxV hrV
  obtain⟨WF,hWF⟩:∃WF,WF=(((((V.setCell (ak xb 1) (ae a)).setCell (ak rk 0) (ae 1)).setCell (ak rk 1) (ae a)).setCell (ak rk 2) ai).setCell (ak rk 3) (.slice A 0 c)):=⟨_,rfl⟩
  rw[<-hWF]at HQ HF
  have HWF:=ad hWF
  clear hWF
  go_wp2_with fail
  rw[<-HWF.out]
  obtain⟨f0,f1,f2,f3,-⟩:=aH HF.out
  exact bodyPost_ret (v:=aU ⟨1,a,[],A,0,c⟩) (by simp[results,results240,go_sem,f0,f1,f2,f3,aU]) rfl HQ.out
 |none=>
  have k1:=(HU.1.map.later aA.drew).look2 n hn
  rw[hg]at k1
  have k1:(Instr.lookup 81 (.map (some mb)) (ae n) true).run prog U.drew=.ok (.tuple #[ae 0,.bool false]) U.drew:=k1
  have HE:Hid (cE (.mk 1 n [] []) m=(.mk 1 m.length [] [],m++[(n,(m.length:Int))])):=ad (by rw[cE,if_pos rfl,hg])
  have HMP:Hid (cL m n (m.length:Int)=m++[(n,(m.length:Int))]):=ad (by unfold cL;rw[hg];rfl)
  clear hg
  go_region
  obtain⟨V,hV⟩:∃V,V=U.drew:=⟨_,rfl⟩
  have hbV:aE U V:=by rw[hV];exact aA.drew
  rw[<-hV]
  have hxV:=(hbV.block _ hlx).trans HU.2.1
  have hrV:=(hbV.block _ (ap HU.2.2.1).1).trans HU.2.2.1
  have HV:=ad (aD (HU.1.later hbV) (aD (HU.2.2.2.step hbV) (aD hxV hrV)))
  clear hV hbV k1 n0 n1 nf hlU x0 x1 x2 x3 xf hlx
  obtain⟨n0,n1,nf⟩:=HV.1.cells
  have hlV:=HV.1.lt
  obtain⟨x0,x1,x2,x3,xf⟩:=aH hxV
  have hlx:xb<V.heap.size:=(ap hxV).1
  obtain⟨V2,hV2⟩:∃V2,V2=V.setCell (ak nb 1) (ae ((m.length:Int)+1)):=⟨_,rfl⟩
  have hnx:=HV.1.ne (t:=27) ⟨_,hxV⟩ (by decide)
  have hnr:=HV.1.ne (t:=27) ⟨_,hrV⟩ (by decide)
  have hxV2:V2.heap[xb]?=some (.cells #[ae 1,ae n,ai,.slice A 0 c] 27 (0,0)):=by rw[hV2];exact(av _ _ _ _ hnx.1).trans hxV
  have hrV2:V2.heap[rk]?=some (.cells #[ae 0,ae 0,ai,aj] 27 (0,0)):=by rw[hV2];exact(av _ _ _ _ hnr.1).trans hrV
  have hmV2:M6 V2 mb m:=HV.1.map.keep (by rw[hV2];exact av _ _ _ _ (Ne.symm HV.1.apart))
  have hbV2:V2.heap[nb]?=some (.cells #[.map (some mb),ae ((m.length:Int)+1)] 338 (0,0)):=by rw[hV2];exact aK HV.1.blk _
  have hfV2:Fr (fun k=>k=nb\/k=mb) u V2:=by rw[hV2];exact HV.2.1.setCell (p:=(ak nb 1)) (.inl (.inl rfl)) _
  obtain⟨W,k3,k4,k5,k6⟩:=(hmV2.later aA.drew).put2 n hn (m.length:Int)
  rw[HMP.out]at k4
  have hkW:∀k,k<V2.heap.size->k≠mb->W.heap[k]?=V2.heap[k]?:=fun k hk hn=>k5.block k hk (fun e=>hn (Option.some.inj e))
  have hxW:=(hkW xb (ap hxV2).1 hnx.2).trans hxV2
  have hrW:=(hkW rk (ap hrV2).1 hnr.2).trans hrV2
  have hgW:eM nb mb W (m++[(n,(m.length:Int))]):=⟨by rw[List.length_append,List.length_singleton];exact(hkW nb (ap hbV2).1 HV.1.apart).trans hbV2,k4⟩
  have hfW:Fr (fun k=>k=nb\/k=mb) u W:=hfV2.drew.grown k5 fun g e=>.inl (.inr (Option.some.inj e).symm)
  have HQ:=ad (HEND.out W m.length _ HE.out hgW hfW hrW)
  have HF:=ad (HFIN.out W m.length ((av _ _ _ _ hrx).trans hrW))
  have HW:=ad (aD hxW hrW)
  have HV2:=ad (aD hbV2 hxV2)
  clear hnx hnr hrV2 hmV2 hfV2 k4 k5 k6 hkW hgW hfW hxV hrV hadd hxV2 hbV2 hxW hrW
  have hadd:IntKind.i64.wrap ((m.length:Int)+1)=(m.length:Int)+1:=IntWalk.i64_in _ (by omega)
  go_upto_region 6 with fail
  rw[<-hV2]
  clear hV2 x0 x1 x2 x3 xf hlx n0 n1 nf hlV hadd
  have n0:V2.cell? (ak nb 0)=some (.map (some mb)):=by rw[cell_of_row V2 nb 0 _ _ (0,0) HV2.1];rfl
  have hlV:nb<V2.heap.size:=(ap HV2.1).1
  obtain⟨x0,x1,x2,x3,xf⟩:=aH HV2.2
  have hlx:xb<V2.heap.size:=(ap HV2.2).1
  go_region
  clear k3 n0 hlV x0 x1 x2 x3 xf hlx
  obtain⟨x0,x1,x2,x3,xf⟩:=aH HW.1
  obtain⟨r0,r1,r2,r3,rf⟩:=aH HW.2
  have hlx:xb<W.heap.size:=(ap HW.1).1
  have hlr:rk<W.heap.size:=(ap HW.2).1
  obtain⟨WF,hWF⟩:∃WF,WF=(((((W.setCell (ak xb 1) (ae (m.length:Int))).setCell (ak rk 0) (ae 1)).setCell (ak rk 1) (ae (m.length:Int))).setCell (ak rk 2) ai).setCell (ak rk 3) (.slice A 0 c)):=⟨_,rfl⟩
  rw[<-hWF]at HQ HF
  have HWF:=ad hWF
  clear hWF
  go_wp2_with fail
  rw[<-HWF.out]
  obtain⟨f0,f1,f2,f3,-⟩:=aH HF.out
  exact bodyPost_ret (v:=aU ⟨1,(m.length:Int),[],A,0,c⟩) (by simp[results,results240,go_sem,f0,f1,f2,f3,aU]) rfl HQ.out
end
end
section
open Go.RowKit Go.Maps
theorem oV:∀(l:List Tm) (t:Tm) (m:List (Int×Int)),cA (l++[t]) m=((cA l m).1++[(cE t (cA l m).2).1],(cE t (cA l m).2).2)
 |[],t,m=>by rw[List.nil_append,cA,cA,cA];rfl
 |a::r,t,m=>by rw[List.cons_append,cA,oV r t,cA];rfl
mutual
theorem qU:∀(t:Tm) (m:List (Int×Int)),(cE t m).2.length<=m.length+t.size
 | .mk k n s l,m=>by
  by_cases hk:k=1
  ·rw[cE,if_pos hk]
   cases aP m n with
   |some a=>simp only[Tm.size];omega
   |none=>simp only[Tm.size,List.length_append,List.length_singleton];omega
  ·rw[cE,if_neg hk]
   have:=nQ l m
   simp only[Tm.size]
   omega
theorem nQ:∀(l:List Tm) (m:List (Int×Int)),(cA l m).2.length<=m.length+Tm.sizes l
 |[],m=>by rw[cA];simp[Tm.sizes]
 |t::r,m=>by
  have h1:=qU t m
  have h2:=nQ r (cE t m).2
  rw[cA]
  simp only[Tm.sizes]
  omega
end
structure th (nb mb rk xb tb n:Nat) (u:World) (X:TV) (m:List (Int×Int)) (l:List Tm) (wr:World) (q:Nat) (zs:List TV):Prop where
 rn:eM nb mb wr (cA (l.take q) m).2
 fr:Fr (fun k=>k=nb\/k=mb) u wr
 rk:wr.heap[rk]?=some (.cells #[ae 0,ae 0,ai,aj] 27 (0,0))
 xb:wr.heap[xb]?=some (.cells #[ae X.k,ae X.n,af X.s,.slice X.A X.len X.cap] 27 (0,0))
 row:aS wr u.heap.size 27 4 aJ (al tb n n) (zs++List.replicate (n-q) eV)
 ts:ct wr (fun b=>tb<b/\aR wr 27 b) zs (cA (l.take q) m).1
 len:zs.length=q
section
variable {nb mb:Nat} {u u':World} {m:List (Int×Int)}
theorem th.after {rk xb tb n q:Nat} {wr V w5:World} {X:TV} {l:List Tm} {zs:List TV} (h:th nb mb rk xb tb n u X m l wr q zs) (hb:aE wr V) (hf:Fr (fun k=>k=nb\/k=mb) V w5) (hq:q<n):
 aS w5 u.heap.size 27 4 aJ (al tb n n) (zs++List.replicate (n-q) eV)/\(zs++List.replicate (n-q) eV)[q]?=some eV/\w5.cell? (ak tb (q*4))=some (ae 0)/\w5.cell? (ak tb (q*4+1))=some (ae 0)/\w5.cell? (ak tb (q*4+2))=some ai/\w5.cell? (ak tb (q*4+3))=some aj/\(∀o,w5.frozen? ⟨tb,o,none⟩=false)/\tb<w5.heap.size:=by
 have hty:aR wr 27 tb:=h.row.ty rfl
 obtain⟨n1,n2⟩:=h.rn.ne hty (by decide)
 have hk:=(hf.block tb (Nat.lt_of_lt_of_le hty.lt hb.size) (fun e=>by rcases e with e|e;exact n1 e;exact n2 e)).trans (hb.block tb hty.lt)
 have hr:=h.row.keep (w':=w5) fun k hk'=>by
  have e:tb=k:=Option.some.inj hk'
  rw[<-e]
  exact hk
 have hz:(zs++List.replicate (n-q) eV)[q]?=some eV:=by
  rw[List.getElem?_append_right (by rw[h.len];exact aC),h.len,Nat.sub_self,List.getElem?_replicate,if_pos (by omega)]
 obtain⟨g,cap,e,-,-,-,hc⟩:=hr.cells bh (fun e=>by rw[e]at hz;cases hz)
 injection e with e
 injection e with e
 injection e with e
 subst e
 obtain⟨iy,h0⟩:=hty.keep hk
 exact⟨hr,hz,(hc q eV hz 0 _ rfl).1,(hc q eV hz 1 _ rfl).1,(hc q eV hz 2 _ rfl).1,(hc q eV hz 3 _ rfl).1,fun o=>by simp[World.frozen?,h0],Nat.lt_of_lt_of_le hty.lt (Nat.le_trans hb.size hf.size)⟩
theorem th.next {rk xb tb n q:Nat} {wr V w5:World} {X y:TV} {l:List Tm} {zs:List TV} {s:Tm} (h:th nb mb rk xb tb n u X m l wr q zs) (hb:aE wr V) (hf:Fr (fun k=>k=nb\/k=mb) V w5) (ht:aI w5 (fL V.heap.size w5) y (cE s (cA (l.take q) m).2).1) (hg:eM nb mb w5 (cE s (cA (l.take q) m).2).2) (hs:l[q]?=some s) (hq:q<n)
 (hr:aS w5 u.heap.size 27 4 aJ (al tb n n) (zs++List.replicate (n-q) eV)) (hz:(zs++List.replicate (n-q) eV)[q]?=some eV) (hxt:xb<tb) (hrt:rk<tb):
 th nb mb rk xb tb n u X m l ((((w5.setCell (ak tb (q*4)) (ae y.k)).setCell (ak tb (q*4+1)) (ae y.n)).setCell (ak tb (q*4+2)) (af y.s)).setCell (ak tb (q*4+3)) (.slice y.A y.len y.cap)) (q+1) (zs++[y]):=by
 have hty:aR wr 27 tb:=h.row.ty rfl
 have hut:=(h.row.lt tb rfl).1
 have hset:∀b,b≠tb->((((w5.setCell (ak tb (q*4)) (ae y.k)).setCell (ak tb (q*4+1)) (ae y.n)).setCell (ak tb (q*4+2)) (af y.s)).setCell (ak tb (q*4+3)) (.slice y.A y.len y.cap)).heap[b]?=w5.heap[b]?:=fun b hb=>by
  rw[av _ _ _ _ hb,av _ _ _ _ hb,av _ _ _ _ hb,av _ _ _ _ hb]
 have hT:∀b,aR wr 27 b->w5.heap[b]?=wr.heap[b]?:=fun b hb'=>by
  obtain⟨n1,n2⟩:=h.rn.ne hb' (by decide)
  exact(hf.block b (Nat.lt_of_lt_of_le hb'.lt hb.size) (fun e=>by rcases e with e|e;exact n1 e;exact n2 e)).trans (hb.block b hb'.lt)
 obtain⟨n1,n2⟩:=h.rn.ne hty (by decide)
 have hsn:cA (l.take (q+1)) m=((cA (l.take q) m).1++[(cE s (cA (l.take q) m).2).1],(cE s (cA (l.take q) m).2).2):=by
  rw[List.take_add_one,hs]
  exact oV _ _ _
 refine⟨?_,?_,?_,?_,?_,?_,by rw[List.length_append,h.len];rfl⟩
 ·rw[hsn]
  exact hg.keep (hset nb (Ne.symm n1)) (hset mb (Ne.symm n2))
 ·exact(((((h.fr.step hb).trans hf).setCell (p:=(ak tb (q*4))) (.inr hut) _).setCell (p:=(ak tb (q*4+1))) (.inr hut) _).setCell (p:=(ak tb (q*4+2))) (.inr hut) _).setCell (p:=(ak tb (q*4+3))) (.inr hut) _
 ·exact(hset rk (by omega)).trans ((hT rk ⟨_,h.rk⟩).trans h.rk)
 ·exact(hset xb (by omega)).trans ((hT xb ⟨_,h.xb⟩).trans h.xb)
 ·have h1:=rY hr y hz
  have h2:(zs++List.replicate (n-q) eV).set q y=zs++[y]++List.replicate (n-(q+1)) eV:=by
   rw[List.set_append_right _ _ (by rw[h.len];exact aC),h.len,Nat.sub_self,show n-q=(n-(q+1))+1 by omega,List.replicate_succ,List.set_cons_zero,List.append_assoc]
   rfl
  rw[h2]at h1
  exact h1
 ·rw[hsn]
  have hlt:tb<wr.heap.size:=hty.lt
  have hVs:=hb.size
  refine(h.ts.keep (fun b hb=>⟨hb.1,hb.2.keep ((hset b (by omega)).trans (hT b hb.2))⟩) fun b hb=>(hset b (by omega)).trans (hT b hb.2)).snoc ?_
  exact ht.keep (fun b hb=>⟨by have:=hb.1;omega,hb.2.keep (hset b (by have:=hb.1;omega))⟩) fun b hb=>hset b (by have:=hb.1;omega)
theorem zo (M:Nat) (hC:EP nb mb M) (t:Tm) (u:World) (x:TV) (hsz:t.size<=M+1) (hk:x.k≠1) (hx:aI u (aR u 27) x t) (h:eM nb mb u m) (hm:t.may=true) (hv:∀n∈dP t,fP n) (hml:m.length+t.size<=1000000):
 Calls prog 240 #[ah nb,aU x] u (pA nb mb u m t):=by
 refine aa fun P hP=>?_
 have HP:=ad hP
 cases hx with
 |mk _ l xa h1 h2 h3 hc ht=>
 obtain⟨k,n0,s,A,n,c⟩:=x
 simp only at hk h1 h2 h3 hc ht HP hsz hm hv hml hP
 have HA:Hid ((∀(i:Nat) a,l[i]?=some a->a.may=true/\(∀n∈dP a,fP n))/\Tm.sizes l<=M/\m.length+Tm.sizes l<=1000000/\l.length=n/\n<=255/\cE (.mk k n0 s l) m=(.mk k n0 s (cA l m).1,(cA l m).2)/\s.length<=maxLen):=ad (by
  have hsz:1+Tm.sizes l<=M+1:=by simpa only[Tm.size]using hsz
  have hml:m.length+(1+Tm.sizes l)<=1000000:=by simpa only[Tm.size]using hml
  refine⟨fun i a ha=>⟨eY hm a (List.mem_of_getElem? ha),fun n hn=>hv n ?_⟩,by omega,by omega,h2,?_,by rw[cE,if_neg hk],h3⟩
  ·rw[dP]
   exact List.mem_append_right _ (ma (List.mem_of_getElem? ha) hn)
  ·rw[<-h2]
   exact qg hm)
 have HXS:=ad (aD h1 (aD hc ht))
 have HM:=ad hC
 obtain⟨U,hU⟩:∃U,U=(u.alloc (.cells #[ae k,ae n0,af s,.slice A n c] 27)).alloc (.cells #[ae 0,ae 0,ai,aj] 27):=⟨_,rfl⟩
 obtain⟨xb,hxb⟩:∃xb,xb=u.heap.size:=⟨_,rfl⟩
 obtain⟨rk,hrk⟩:∃rk,rk=u.heap.size+1:=⟨_,rfl⟩
 have hbU:aE u U:=by rw[hU];exact aB.alloc (by simp) _
 have hxx:U.heap[xb]?=some (.cells #[ae k,ae n0,af s,.slice A n c] 27 (0,0)):=by
  rw[hU,hxb,aw _ _ _ (by simp)]
  exact az
 have hr:U.heap[rk]?=some (.cells #[ae 0,ae 0,ai,aj] 27 (0,0)):=by
  rw[hU,hrk]
  have:=heap_alloc_new (u.alloc (.cells #[ae k,ae n0,af s,.slice A n c] 27)) (.cells #[ae 0,ae 0,ai,aj] 27)
  rwa[World.size_alloc]at this
 have HXR:Hid (u.heap.size<=xb/\u.heap.size<=rk/\xb≠rk):=ad (by omega)
 have HT0:Hid (∀b,aR u 27 b->¬(b=nb\/b=mb)):=ad fun b hb e=>by
  obtain⟨n1,n2⟩:=h.ne hb (by decide)
  rcases e with e|e
  ·exact n1 e
  ·exact n2 e
 have HU:=ad (aD (h.later hbU) (aD hxx (aD hr (Fr.of_below (fun k=>k=nb\/k=mb) hbU))))
 obtain⟨x0,x1,x2,x3,xf⟩:=aH hxx
 obtain⟨r0,r1,r2,r3,rf⟩:=aH hr
 have hlx:xb<U.heap.size:=(ap hxx).1
 have hlr:rk<U.heap.size:=(ap hr).1
 have b1:(k==1)=false:=beq_eq_false_iff_ne.2 hk
 have hn255:=HA.2.2.2.2.1
 clear hP h1 h2 h3 hc ht h hm hv hml hsz hC hbU hxx hr hk
 unfold aU
 go_enter func240,ntmps240
 go_upto_region 1 with fail
 rw[<-hU,<-hxb,show xb+1=rk by omega]
 clear hU hxb hrk
 by_cases hn0:n=0
 ·subst hn0
  have HQ:Hid (P (.returned (aU ⟨k,n0,s,A,0,c⟩)) ((((U.setCell (ak rk 0) (ae k)).setCell (ak rk 1) (ae n0)).setCell (ak rk 2) (af s)).setCell (ak rk 3) (.slice A 0 c))):=ad (by
   have hl:l=[]:=List.eq_nil_of_length_eq_zero HA.2.2.2.1
   subst hl
   obtain⟨e1,e2,e3⟩:=pU (y:=⟨k,n0,s,A,0,c⟩) (t:=.mk k n0 s []) HU.1 HU.2.2.2 HU.2.2.1 HXR.2.1 (aI.leaf _ _ k n0 s A c HA.2.2.2.2.2.2)
   rw[HP.out]
   refine⟨_,rfl,?_,?_,e3⟩
   ·rw[HA.2.2.2.2.2.1,cA];exact e1
   ·rw[HA.2.2.2.2.2.1,cA];exact e2)
  have HF:=ad (bc HU.2.2.1 rfl (ae k) (ae n0) (af s) (.slice A 0 c))
  have hrx:rk≠xb:=Ne.symm HXR.2.2
  have hxr:xb≠rk:=HXR.2.2
  obtain⟨WF,hWF⟩:∃WF,WF=((((U.setCell (ak rk 0) (ae k)).setCell (ak rk 1) (ae n0)).setCell (ak rk 2) (af s)).setCell (ak rk 3) (.slice A 0 c)):=⟨_,rfl⟩
  rw[<-hWF]at HQ HF
  have HWF:=ad hWF
  clear hWF
  go_wp2_with fail
  rw[<-HWF.out]
  obtain⟨f0,f1,f2,f3,-⟩:=aH HF.out
  exact bodyPost_ret (v:=aU ⟨k,n0,s,A,0,c⟩) (by simp[results,results240,go_sem,f0,f1,f2,f3,aU]) rfl HQ.out
 ·have hgt:(n:Int)>0:=by omega
  have hgt2:decide (0<n)=true:=decide_eq_true (by omega)
  have hmk:=gH U n (by omega)
  obtain⟨W3,hW3⟩:∃W,W=U.alloc (.cells ((List.replicate n eV).flatMap aJ).toArray 27):=⟨_,rfl⟩
  obtain⟨tb,htb⟩:∃tb,tb=U.heap.size:=⟨_,rfl⟩
  have hb3:aE U W3:=by rw[hW3];exact aB
  have HI0:Hid (th nb mb rk xb tb n u ⟨k,n0,s,A,n,c⟩ m l W3 0 []/\xb<tb/\rk<tb):=ad (by
   refine⟨⟨by rw[List.take_zero,cA];exact HU.1.later hb3,HU.2.2.2.step hb3,(hb3.block _ hlr).trans HU.2.2.1,(hb3.block _ hlx).trans HU.2.1,?_,?_,rfl⟩,by omega,by omega⟩
   ·rw[List.nil_append,Nat.sub_zero,htb,hW3]
    exact o9 U u.heap.size n HU.2.2.2.size (by omega)
   ·rw[List.take_zero,cA]
    exact ct.nil _ _)
  rw[<-hW3,<-htb]at hmk
  have hx3:=(hb3.block _ hlx).trans HU.2.1
  have hlx3:xb<W3.heap.size:=Nat.lt_of_lt_of_le hlx hb3.size
  obtain⟨-,-,-,x3',xf'⟩:=aH hx3
  clear hW3 htb hb3 hx3 r0 r1 r2 r3 rf hlr
  go_wp2_with fail
  clear hmk x0 x1 x2 x3 xf x3' xf' hlx hlx3 hgt hgt2 b1
  go_loopw [56] (fun i wr=>∃(q:Nat) (zs:List TV),i=ae (q:Nat)/\q<=n/\Hid (th nb mb rk xb tb n u ⟨k,n0,s,A,n,c⟩ m l wr q zs)) (fun i _=>n-(intOf i).toNat)
  case atStart=>exact⟨0,[],rfl,Nat.zero_le _,ad HI0.1⟩
  case round=>
   obtain⟨q,zs,rfl,hq,HI⟩:=hrel
   have HXT:=ad HI0.2
   clear HI0
   by_cases hlt:q<n
   ·obtain⟨a,ha⟩:∃a,l[q]?=some a:=⟨_,au (by rw[HA.2.2.2.1];exact hlt)⟩
    obtain⟨y,hy⟩:∃y,xa[q]?=some y:=⟨_,au (by rw[HXS.1];exact hlt)⟩
    obtain⟨b,off,eA,hb,hcc⟩:=HXS.2.1 q y hy
    have hkT:∀b,aR u 27 b->wr.heap[b]?=u.heap[b]?:=fun b hb=>HI.fr.block b hb.lt (HT0.out b hb)
    have hcell:∀(j:Nat) v,(aJ y)[j]?=some v->wr.cell? (ak b (off+q*4+j))=some v:=fun j v hv=>(World.cell?_of_block (a:=⟨b,off+q*4+j,none⟩) (hkT b hb)).trans (hcc j v hv)
    have y0:=hcell 0 _ rfl
    have y1:=hcell 1 _ rfl
    have y2:=hcell 2 _ rfl
    have y3:=hcell 3 _ rfl
    rw[Nat.add_zero]at y0
    have hbl:b<wr.heap.size:=Nat.lt_of_lt_of_le hb.lt HI.fr.size
    have HT:=ad ((HXS.2.2 q y a hy ha).keep (w':=wr) (S':=aR wr 27) (fun b hb=>hb.keep (hkT b hb)) hkT)
    obtain⟨V,hV⟩:∃V,V=wr.alloc (.cells #[ae y.k,ae y.n,af y.s,.slice y.A y.len y.cap] 27):=⟨_,rfl⟩
    have hbV:aE wr V:=by rw[hV];exact aB
    have hzV:V.heap[wr.heap.size]?=some (.cells #[ae y.k,ae y.n,af y.s,.slice y.A y.len y.cap] 27 (0,0)):=by rw[hV];exact az
    obtain⟨v0,v1,v2,v3,-⟩:=aH hzV
    have hlt1:(q:Int)<(n:Int):=by omega
    have hge:(0:Int)<=(q:Int):=by omega
    have hwq:IntKind.i64.wrap ((q:Int)+1)=(q:Int)+1:=IntWalk.i64_in _ (by omega)
    have HTV:Hid (aI V (aR V 27) y a):=ad (HT.keep (fun b hb=>hb.keep (hbV.block b hb.lt)) fun b hb=>hbV.block b hb.lt)
    have HBV:=ad hbV
    have HAQ:=ad ha
    have HCL:Hid (Calls prog 240 #[ah nb,aU y] V (pA nb mb V (cA (l.take q) m).2 a)):=ad (HM.out a V y _ (by
     have h1:Tm.sizes (l.take q)+a.size=Tm.sizes (l.take (q+1)):=by rw[List.take_add_one,ha];exact(iS _ _).symm
     have h2:=fS (q+1) l
     have h3:=HA.2.1
     omega) HTV.out (HI.rn.later hbV) (HA.1 q a ha).1 (HA.1 q a ha).2 (by
     have h1:Tm.sizes (l.take q)+a.size=Tm.sizes (l.take (q+1)):=by rw[List.take_add_one,ha];exact(iS _ _).symm
     have h2:=fS (q+1) l
     have h3:=HA.2.2.1
     have h4:=nQ (l.take q) m
     omega))
    clear hcc hkT hcell hy ha hb hzV hbV
    subst eA
    go_upto_region 13 with fail
    rw[<-hV]
    clear hV
    go_wp2_with fail
    refine HCL.mono ?_
    rintro e w5 ⟨z,rfl,ht5,hg5,hf5⟩
    unfold aU
    obtain⟨hr5,hz5,q0,q1,q2,q3,qf,hlt5⟩:=HI.after HBV.out hf5 hlt
    have HNX:=ad (HI.next HBV.out hf5 ht5 hg5 HAQ.out hlt hr5 hz5 HXT.1 HXT.2)
    clear hr5 hz5 ht5 hg5 hf5 y0 y1 y2 y3 v0 v1 v2 v3 hbl
    go_upto_region 14 with fail
    clear q0 q1 q2 q3 qf hlt5 hlt1 hge
    obtain⟨W9,hW9⟩:∃W9,W9=((((w5.setCell (ak tb (q*4)) (ae z.k)).setCell (ak tb (q*4+1)) (ae z.n)).setCell (ak tb (q*4+2)) (af z.s)).setCell (ak tb (q*4+3)) (.slice z.A z.len z.cap)):=⟨_,rfl⟩
    rw[<-hW9]at HNX⊢
    clear hW9
    go_wp2_with fail
    go_roundw
    case rel=>exact⟨q+1,zs++[z],rfl,by omega,HNX⟩
    case measure=>
     simp only[intOf]
     omega
   ·obtain rfl:q=n:=by omega
    have hng:¬(q:Int)<(q:Int):=by omega
    obtain⟨r0,r1,r2,r3,rf⟩:=aH HI.rk
    obtain⟨x0,x1,x2,x3,xf⟩:=aH HI.xb
    have hlr:rk<wr.heap.size:=(ap HI.rk).1
    have hlx:xb<wr.heap.size:=(ap HI.xb).1
    have hrx:rk≠xb:=Ne.symm HXR.2.2
    have hxr:xb≠rk:=HXR.2.2
    have HQ:Hid (P (.returned (aU ⟨k,n0,s,some (ak tb 0),q,q⟩)) (((((wr.setCell (ak xb 3) (al tb q q)).setCell (ak rk 0) (ae k)).setCell (ak rk 1) (ae n0)).setCell (ak rk 2) (af s)).setCell (ak rk 3) (al tb q q))/\(((((wr.setCell (ak xb 3) (al tb q q)).setCell (ak rk 0) (ae k)).setCell (ak rk 1) (ae n0)).setCell (ak rk 2) (af s)).setCell (ak rk 3) (al tb q q)).heap[rk]?=some (.cells #[ae k,ae n0,af s,al tb q q] 27 (0,0))):=ad (by
     have htk:l.take q=l:=List.take_of_length_le (by rw[HA.2.2.2.1];exact aC)
     have hrow:=HI.row
     rw[Nat.sub_self,List.replicate_zero,List.append_nil]at hrow
     have hts:=HI.ts
     have hrn:=HI.rn
     rw[htk]at hts hrn
     have h2:=HXT.out
     have hw:∀b,b≠xb->(wr.setCell (ak xb 3) (al tb q q)).heap[b]?=wr.heap[b]?:=fun b hb=>av _ _ _ _ hb
     obtain⟨n1,n2⟩:=hrn.ne (t:=27) ⟨_,HI.xb⟩ (by decide)
     have hrow':=hrow.keep (w':=wr.setCell (ak xb 3) (al tb q q)) fun g hg=>by
      have e:tb=g:=Option.some.inj hg
      exact hw g (by omega)
     have ht:=ct.comp (S:=fun b=>fL u.heap.size (wr.setCell (ak xb 3) (al tb q q)) b/\b≠rk) (hts.keep (fun b hb=>⟨⟨by have:=hb.1;have:=HXR.out;omega,hb.2.keep (hw b (by have:=hb.1;omega))⟩,by have:=hb.1;omega⟩) fun b hb=>hw b (by have:=hb.1;omega)) hrow' rfl (fun g hg=>by
      have e:tb=g:=Option.some.inj hg
      rw[<-e]
      exact⟨⟨by have:=HXR.out;omega,hrow'.ty rfl⟩,by omega⟩) s HA.2.2.2.2.2.2 k n0
     have hrk':=(hw rk hrx).trans HI.rk
     obtain⟨e1,e2,e3⟩:=pU (hrn.keep (hw nb (Ne.symm n1)) (hw mb (Ne.symm n2))) (HI.fr.setCell (p:=(ak xb 3)) (.inr HXR.1) _) hrk' HXR.2.1 ht
     rw[HP.out]
     refine⟨⟨_,rfl,?_,?_,e3⟩,bc hrk' rfl _ _ _ _⟩
     ·rw[HA.2.2.2.2.2.1];exact e1
     ·rw[HA.2.2.2.2.2.1];exact e2)
    obtain⟨WF,hWF⟩:∃WF,WF=(((((wr.setCell (ak xb 3) (al tb q q)).setCell (ak rk 0) (ae k)).setCell (ak rk 1) (ae n0)).setCell (ak rk 2) (af s)).setCell (ak rk 3) (al tb q q)):=⟨_,rfl⟩
    rw[<-hWF]at HQ
    have HWF:=ad hWF
    clear hWF hlt
    go_wp2_with fail
    rw[<-HWF.out]
    obtain⟨f0,f1,f2,f3,-⟩:=aH HQ.2
    exact bodyPost_ret (v:=aU ⟨k,n0,s,some (ak tb 0),q,q⟩) (by simp[results,results240,go_sem,f0,f1,f2,f3,aU]) rfl HQ.1
theorem uT (nb mb:Nat):∀n,EP nb mb n
 |0=>fun t u x m hs _ _ _ _ _=>by
  obtain⟨k,n,s,l⟩:=t
  simp only[Tm.size]at hs
  omega
 |n+1=>fun t u x m hsz hx h hm hv hml=>by
  by_cases hk:x.k=1
  ·cases hx with
   |mk _ args xa h1 h2 h3 hc ht=>
    obtain⟨m1,-,-⟩:=eX hm
    obtain⟨hs0,rfl⟩:=m1 hk
    have e:Tm.mk x.k x.n x.s []=.mk 1 x.n [] []:=by rw[hk,hs0]
    rw[e]at hv hml⊢
    exact CV u x hk hs0 h2.symm (hv _ (by rw[dP,if_pos rfl];exact List.mem_append_left _ (List.mem_singleton.2 rfl))) h (by simpa[Tm.size,Tm.sizes]using hml)
  ·exact zo n (uT nb mb n) t u x hsz hk hx h hm hv hml
end
end
end Go.Proofs.YtigeofkllldilaaGreatDoor
