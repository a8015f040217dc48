import Derived.Test.YtigeofkllldilaaGreatDoorJM27
import Derived.Test.YtigeofkllldilaaGreatDoorJM22
import Derived.Test.YtigeofkllldilaaGreatDoorJM18
import Derived.Test.YtigeofkllldilaaGreatDoorJM19
set_option maxHeartbeats 32000000
set_option maxRecDepth 100000
set_option linter.unusedSectionVars false
open Go.Proofs.Tryz
namespace Go.Proofs.YtigeofkllldilaaGreatDoor
section
open Go.RowKit Go.Maps
variable[Base]
theorem rH {vb:Nat} {v w:World} {m:List (Int×Int)} {t:TypeId} {k:Nat} (hv:M6 v vb m) (hf:Fr (fun k=>k=vb\/fc iw v k) v w) (hk:aR v t k) (ht:t∉iw):w.heap[k]?=v.heap[k]?:=
 hf.block k hk.lt fun h=>h.elim (fun e=>hv.map.ne hk e.symm) fun⟨_,_,h1,h2⟩=>ht (hk.same h2▸h1)
theorem aT.put {u:World} {rb:Nat} {r r':RC} {l:List (Int×List UInt8)} {db ob:Nat} {spent:Int} {over:List UInt8} (h:aT u rb r l db ob spent over) (i:Nat) (v:Value) (he:(Dx r).setIfInBounds i v=Dx r') (hm:r'.mb=r.mb) (hev:r'.ev=r.ev):
 aT (u.setCell (ak rb i) v) rb r' l db ob spent over/\TF [124] u (u.setCell (ak rb i) v):=by
 have hf:TF [124] u (u.setCell (ak rb i) v):=(TF.refl _ u).set (p:=(ak rb i)) h.run.ty (by decide) h.few.2.1 v
 refine⟨⟨h.run.set i v r' he,?_,?_,by rw[hm];exact h.few⟩,hf⟩
 ·rw[hev]
  exact hf.row h.ev (by decide)
 ·rw[hm]
  exact(hf.block ⟨_,h.mach⟩ (by decide)).trans h.mach
def FF (u:World) (rb room:Nat) (r:RC) (l:List (Int×List UInt8)) (db ob:Nat) (spent:Int) (over:List UInt8) (cs:List Sc) (ys:List (Nat×Int)) (t:Tm) (e:Ending) (u':World):Prop:=
 e=.returned (ae 0)/\∃fb cv bv xs,aT u' rb {r with fr:=ah fb} l db ob spent over/\ea u' fb ((aV t ⟨cs,[]⟩).1:Nat) 0/\aL r.sb room u' cv bv xs (aV t ⟨cs,[]⟩).2.cs ys/\(∃m,M6 u' r.vb m/\∀n,aP m n=aP (jD (aV t ⟨cs,[]⟩).2.fr) n)/\Fr (fun k=>k=r.vb\/fc (124::iw) u k) u u'
theorem oI (u:World) (rb room:Nat) (r:RC) (l:List (Int×List UInt8)) (db ob:Nat) (spent:Int) (over:List UInt8) (cv bv:Value) (xs:List ec) (cs:List Sc) (ys:List (Nat×Int)) (x:TV) (t:Tm)
 (h:aT u rb r l db ob spent over) (hs:aL r.sb room u cv bv xs cs ys) (hv:M6 u r.vb []) (hx:aI u (aR u 27) x t) (hm:t.may=true) (h6:∀n∈dP t,fP n) (hsz:t.size<=2000) (hr:cs.length+t.size<=room)
 (hsl:x.s.length<=maxLen) (hl:(x.len:Int)<=9223372036854775807) (hk:x.k=3\/x.k=4) (hkd:bI x.k x.s x.len≠2/\bI x.k x.s x.len≠3/\bI x.k x.s x.len≠4):
 Calls prog 104 #[ah rb,aU x] u (FF u rb room r l db ob spent over cs ys t):=by
 refine aa fun P hP=>?_
 have HP:=ad hP
 have hk1:(x.k==1)=false:=beq_false_of_ne (by omega)
 obtain⟨W,hW⟩:∃W,W=u.alloc (.cells #[ae x.k,ae x.n,af x.s,.slice x.A x.len x.cap] 27):=⟨_,rfl⟩
 have hbW:aE u W:=by rw[hW];exact aB
 have h0:W.heap[u.heap.size]?=some (.cells #[ae x.k,ae x.n,af x.s,.slice x.A x.len x.cap] 27 (0,0)):=by rw[hW];exact az
 obtain⟨z0,z1,z2,z3,-⟩:=aH h0
 have HBO:Hid (Calls prog 70 #[aU x] W fun e w2=>∃y:TV,e=.returned (.tuple #[aU y,ae 0])/\aI w2 (aR w2 27) y t/\aE W w2):=ad (by
  refine(nD W (fun _=>True) x t (hx.move fun b hb=>⟨⟨hb.keep (hbW.block b hb.lt),trivial⟩,hbW.block b hb.lt⟩) hm hsz hsl hl hk hkd).mono ?_
  rintro e w2 ⟨y,rfl,h1,h2⟩
  exact⟨y,rfl,h1.move fun b hb=>⟨hb.1,rfl⟩,h2⟩)
 have HZ:=ad (aD h (aD hs (aD hv (aD hm (aD h6 (aD hsz hr))))))
 have HBW:=ad hbW
 have hlu:=h.run.lt
 have hlW:u.heap.size<=W.heap.size:=hbW.size
 clear hP h hs hv hx hm h6 hsz hr hsl hl hk hkd h0 hbW
 unfold aU at HBO⊢
 go_enter func104,ntmps104
 go_upto_region 1 with fail
 rw[<-hW]
 clear hW
 go_wp2_with fail
 refine HBO.mono ?_
 rintro e w2 ⟨y,rfl,ht,hb2⟩
 obtain⟨V,hV⟩:∃V,V=w2.alloc (.cells #[ae y.k,ae y.n,af y.s,.slice y.A y.len y.cap] 27):=⟨_,rfl⟩
 have hbV:aE w2 V:=by rw[hV];exact aB
 have hVn:V.heap[w2.heap.size]?=some (.cells #[ae y.k,ae y.n,af y.s,.slice y.A y.len y.cap] 27 (0,0)):=by rw[hV];exact az
 have hbuV:aE u V:=HBW.trans ((hb2.trans (hbV.mono hb2.size)).mono HBW.size)
 have HV:Hid (aT V.drew rb r l db ob spent over/\aL r.sb room V.drew cv bv xs cs ys/\M6 V.drew r.vb []/\aI V.drew (aR V.drew 27) y t):=ad (by
  have hb':=hbuV.drew
  exact⟨HZ.1.later hb',HZ.2.1.later hb',HZ.2.2.1.later hb',ht.move fun b hb=>⟨aR.keep hb (hbV.drew.block b hb.lt),hbV.drew.block b hb.lt⟩⟩)
 have HVN:=ad hVn
 have HBU:=ad hbuV
 clear ht hb2 hbV hVn hbuV z0 z1 z2 z3
 go_upto_region 8 with fail
 rw[<-hV]
 clear hV
 obtain⟨sb,hsb⟩:∃sb,sb=r.sb:=⟨_,rfl⟩
 obtain⟨vb,hvb⟩:∃vb,vb=r.vb:=⟨_,rfl⟩
 obtain⟨X,hX⟩:∃X,X=w2.heap.size:=⟨_,rfl⟩
 have HSV:Hid (∀w3,bS w3 rb r->w3.heap[X]?=some (.cells #[ae y.k,ae y.n,af y.s,.slice y.A y.len y.cap] 27 (0,0))->(w3.cell? (ak rb 1)=some (ah sb)/\w3.cell? (ak rb 3)=some (.map (some vb)))/\(w3.cell? (ak X 0)=some (ae y.k)/\w3.cell? (ak X 1)=some (ae y.n)/\w3.cell? (ak X 2)=some (af y.s)/\w3.cell? (ak X 3)=some (.slice y.A y.len y.cap))):=ad fun w3 h1 h2=>by
  obtain⟨a,b,c,d,-⟩:=aH h2
  exact⟨⟨by rw[h1.get 1,hsb];rfl,by rw[h1.get 3,hvb];rfl⟩,a,b,c,d⟩
 have HD:=ad (HSV.out V.drew HV.1.run (hX▸HVN.out))
 have HPU:Hid (Calls prog 196 #[ah sb,.agg #[ae y.k,ae y.n,af y.s,.slice y.A y.len y.cap],.map (some vb)] V.drew fun e w3=>∃p:Nat,e=.returned (.tuple #[ae (p:Nat),ae 0])/\p=(aV t ⟨cs,[]⟩).1/\aT w3 rb r l db ob spent over/\w3.heap[X]?=some (.cells #[ae y.k,ae y.n,af y.s,.slice y.A y.len y.cap] 27 (0,0))/\(∃cv' xs',aL sb room w3 cv' bv xs' (aV t ⟨cs,[]⟩).2.cs ys)/\(∃m,M6 w3 vb m/\∀n,aP m n=aP (jD (aV t ⟨cs,[]⟩).2.fr) n)/\Fr (fun k=>k=vb\/fc iw u k) u w3):=ad (by
  obtain⟨hR,hS,hM,hT⟩:=HV.out
  rw[<-hsb]at hS
  rw[<-hvb]at hM
  refine(Al hS hM y t hT HZ.2.2.2.1 HZ.2.2.2.2.1 HZ.2.2.2.2.2.1 HZ.2.2.2.2.2.2).mono ?_
  rintro e w3 ⟨rfl,g1,g2,g3⟩
  refine⟨_,rfl,rfl,⟨(rH hM g3 hR.run.ty (by decide)).trans hR.run,hR.ev.keep fun k hk=>rH hM g3 (hR.ev.ty hk) (by decide),(rH hM g3 ⟨_,hR.mach⟩ (by decide)).trans hR.mach,hR.few⟩,?_,g1,g2,?_⟩
  ·rw[hX]
   exact(rH hM g3 (t:=27) ⟨_,HVN.out⟩ (by decide)).trans HVN.out
  ·have hb:=HBU.drew
   refine⟨g3.os.trans hb.os,g3.tape.trans hb.tape,g3.output.trans hb.output,Nat.le_trans hb.size g3.size,fun k hk hn=>(g3.block k (Nat.lt_of_lt_of_le hk hb.size) fun h=>hn (h.imp_right ?_)).trans (hb.block k hk)⟩
   rintro⟨h0,ty,h1,c,h2⟩
   exact⟨h0,ty,h1,c,(hb.block k hk).symm.trans h2⟩)
 have HSB:=ad (aD hsb hvb)
 clear hsb hvb HBO HV HBW HBU HVN
 subst hX
 go_region_held3 (fun v=>(v.cell? (ak rb 1)=some (ah sb)/\v.cell? (ak rb 3)=some (.map (some vb)))/\(v.cell? (ak w2.heap.size 0)=some (ae y.k)/\v.cell? (ak w2.heap.size 1)=some (ae y.n)/\v.cell? (ak w2.heap.size 2)=some (af y.s)/\v.cell? (ak w2.heap.size 3)=some (.slice y.A y.len y.cap)))
  (first|(with_reducible exact HA1.out)|(with_reducible exact HD.out))
  (first|(go_at_call 196;with_reducible (refine HPU.out.mono ?_;rintro e w3 ⟨p,rfl,hp,g1,g2,g3⟩);have HA1:=ad (HSV.out w3 g1.run g2);have HG:=ad (aD hp (aD g1 g3));clear hp g1 g2 g3))
 clear HPU HSV HD HA1
 go_wp2_with fail
 refine(ng w3 (p:Nat) 0).mono ?_
 rintro e w4 ⟨rfl,hF,hb4⟩
 obtain⟨F,hFE⟩:∃F,F=w3.heap.size:=⟨_,rfl⟩
 have hR4:=HG.2.1.later hb4
 have c7:w4.cell? (ak rb 7)=some r.fr:=hR4.run.get 7
 have cf:=hR4.run.fz
 have hl4:=hR4.run.lt
 have HQ:Hid (P (.returned (ae 0)) (w4.setCell (ak rb 7) (ah w3.heap.size))):=ad (by
  obtain⟨hp,-,⟨cv',xs',hS⟩,⟨m,hM,hMm⟩,hfr⟩:=HG.out
  have h9:=hR4.put (r':= {r with fr:=ah w3.heap.size}) 7 (ah w3.heap.size) rfl rfl rfl
  rw[HP.out]
  refine⟨rfl,w3.heap.size,cv',bv,xs',h9.1,?_,?_,⟨m,?_,hMm⟩,?_⟩
  ·rw[<-hp]
   exact(h9.2.block (t:=243) ⟨_,hF⟩ (by decide)).trans hF
  ·rw[<-HSB.1]
   exact(hS.later hb4).tf h9.2 (by decide)
  ·rw[<-HSB.2]
   exact(hM.later hb4).keep (av _ _ _ _ ((hM.later hb4).map.ne hR4.run.ty))
  ·rw[<-HSB.2]
   have h8:Fr (fun k=>k=vb\/fc (124::iw) u k) u w4:=(hfr.mono fun k _ h=>h.imp_right fun⟨h0,t',h1,h2⟩=>⟨h0,t',List.mem_cons_of_mem _ h1,h2⟩).trans (Fr.of_below _ hb4)
   exact h8.setCell (p:=(ak rb 7)) (.inl (.inr ⟨HZ.1.few.2.1,124,by decide,HZ.1.run.ty⟩)) _)
 clear hF hb4 hR4 HG HZ HP hFE F HSB
 go_wp2_with fail
 exact HQ.out
end
section
open Go.RowKit Go.Maps
variable[Base]
abbrev FA (rb:Nat):Value:=ah rb
def dz (u:World) (bb rb:Nat):Prop:=∃L,aW u bb pk (Eg (FA rb)) L/\(∀x∈L,ez x.1)/\∀k,aP L k=aP sB k
omit[Base]in
theorem dz.of {w u:World} {bb rb:Nat} (h:Cr w u bb pk (Eg (FA rb)) ez sB):dz u bb rb:=by
 obtain⟨L,h1,h2⟩:=h
 exact⟨L,h1.map,h1.ok,h2⟩
omit[Base]in
theorem dz.keep {u v:World} {bb rb:Nat} (h:dz u bb rb) (hb:v.heap[bb]?=u.heap[bb]?):dz v bb rb:=by
 obtain⟨L,h1,h2,h3⟩:=h
 exact⟨L,h1.keep hb,h2,h3⟩
omit[Base]in
theorem dz.lt {u:World} {bb rb:Nat} (h:dz u bb rb):bb<u.heap.size:=by
 obtain⟨L,h1,-⟩:=h
 exact h1.lt
omit[Base]in
theorem dz.later {u v:World} {bb rb:Nat} (h:dz u bb rb) (hb:aE u v):dz v bb rb:=h.keep (hb.block _ h.lt)
omit[Base]in
theorem dz.look {u:World} {bb rb:Nat} (h:dz u bb rb) (s:List UInt8) (n:Int) (hk:ez (s,n)):(Instr.lookup 122 (.map (some bb)) (.agg #[af s,ae n]) true).run prog u=.ok (.tuple #[((aP sB (s,n)).map (Eg (FA rb))).getD .nilFunc,.bool (aP sB (s,n)).isSome]) u:=by
 obtain⟨L,h1,h2,h3⟩:=h
 have:=h1.lookup (t:=122) EK underlying122 (z:=.nilFunc) (fun u=>by kernel_rfl) h2 hk true
 rw[h3]at this
 exact this
end
section
open Go.RowKit Go.Maps
structure C3 (w u:World) (s:List UInt8) (n tb:Nat):Prop where
 below:aE w u
 box:u.heap[w.heap.size]?=some (.cells #[ae 4,ae 0,af s,al tb n n] 27 (0,0))
 args:∃cs,u.heap[tb]?=some (.cells cs 27 (0,0))/\cs.size=n*4
theorem C3.put {w u:World} {s:List UInt8} {n tb q:Nat} (h:C3 w u s n tb) (ht:w.heap.size<tb) (v:Value):C3 w (u.setCell (ak tb q) v) s n tb:=by
 obtain⟨cs,h1,h2⟩:=h.args
 exact⟨h.below.setCell (Nat.le_of_lt ht) _,(av _ _ _ _ (show w.heap.size≠tb by omega)).trans h.box,_,aK h1 v,by simpa using h2⟩
theorem C3.cell {w u:World} {s:List UInt8} {n tb q:Nat} (h:C3 w u s n tb) (hq:q<n):(∃v,u.cell? (ak tb (q*4))=some v)/\∀o,u.frozen? ⟨tb,o,none⟩=false:=by
 obtain⟨cs,h1,h2⟩:=h.args
 exact⟨⟨cs[q*4]'(by omega),by rw[cell_of_row _ _ (q*4) _ _ _ h1,Array.getElem?_eq_getElem]⟩,fun o=>by simp[World.frozen?,h1]⟩
theorem nG (w:World) (k m:Int) (s:List UInt8) (A:Option Addr) (c d n:Nat) (hk:k=3\/k=4) (hs:s.length<=maxLen) (h1:1<=n) (h3:n<=3):
 Calls prog 71 #[.agg #[ae k,ae m,af s,.slice A c d],ae (n:Nat)] w fun e w'=>e=.returned (ae (bI 4 s n))/\aE w w':=by
 have a1:¬(3:Int)<(n:Int):=by omega
 have a2:decide ((3:Int)<(n:Int))=false:=decide_eq_false a1
 have a3:(0:Int)<(n:Int):=by omega
 have HN:=ad (aD hs (aD h1 h3))
 obtain⟨W,hW⟩:∃W,W=w.alloc (.cells #[ae 4,ae 0,af s,aj] 27):=⟨_,rfl⟩
 have hmk:=gH W n (by omega)
 obtain⟨tb,htb⟩:∃tb,tb=W.heap.size:=⟨_,rfl⟩
 obtain⟨M1,hM1⟩:∃M1,M1=W.alloc (.cells ((List.replicate n eV).flatMap aJ).toArray 27):=⟨_,rfl⟩
 obtain⟨W3,hW3⟩:∃W3,W3=M1.setCell (ak w.heap.size 3) (al tb n n):=⟨_,rfl⟩
 have hWb:W.heap[w.heap.size]?=some (.cells #[ae 4,ae 0,af s,aj] 27 (0,0)):=by rw[hW];exact az
 have htbw:tb=w.heap.size+1:=by rw[htb,hW];simp
 have hMb:M1.heap[w.heap.size]?=some (.cells #[ae 4,ae 0,af s,aj] 27 (0,0)):=by rw[hM1];exact(aw _ _ _ (by omega)).trans hWb
 have HI0:Hid (C3 w W3 s n tb):=ad (by
  refine⟨?_,?_,?_⟩
  ·rw[hW3,hM1,hW]
   exact(aB.alloc (by simp) _).setCell (by simp) _
  ·rw[hW3]
   have:=aK hMb (al tb n n) (i:=3)
   simpa using this
  ·refine⟨((List.replicate n eV).flatMap aJ).toArray,?_,?_⟩
   ·rw[hW3,av _ _ _ _ (show tb≠w.heap.size by omega),htb,hM1]
    exact az
   ·rw[List.size_toArray]
    exact kf n)
 have HT:=ad htbw
 clear hs h1 h3
 rw[<-htb,<-hM1]at hmk
 obtain⟨m0,m1,m2,m3,mf⟩:=aH hMb
 have HW3:=ad hW3
 obtain⟨b0,b1,b2,b3,bf⟩:=aH hWb
 clear hW3 htb htbw hWb hM1 hMb
 rcases hk with rfl|rfl
 all_goals
  go_enter func71,ntmps71
  go_upto_region 8 with fail
  rw[<-hW]
  clear hW
  go_upto_region 9 with fail
  rw[<-HW3.out]
  obtain⟨c0,c1,c2,c3,cf⟩:=aH HI0.box
  clear hmk b0 b1 b2 b3 bf m0 m1 m2 m3 mf HW3
  go_wp2_with fail
  go_loopw [33] (fun i wr=>∃q:Nat,i=ae (q:Nat)/\q<=n/\Hid (C3 w wr s n tb)) (fun i _=>n-(intOf i).toNat)
  case atStart=>exact⟨0,rfl,Nat.zero_le _,HI0⟩
  case round=>
   obtain⟨q,rfl,hq,HI⟩:=hrel
   have HN3:=HN.2.2
   have HTB:=HT.out
   clear HI0 c0 c1 c2 c3 cf
   obtain⟨c0,c1,c2,c3,cf⟩:=aH HI.box
   by_cases hlt:q<n
   ·have hlt1:(q:Int)<(n:Int):=by omega
    have hge:(0:Int)<=(q:Int):=by omega
    have hwq:IntKind.i64.wrap ((q:Int)+1)=(q:Int)+1:=IntWalk.i64_in _ (by omega)
    obtain⟨⟨v,hv⟩,hf⟩:=HI.cell hlt
    have HNX:Hid (C3 w (wr.setCell (ak tb (q*4)) (ae 2)) s n tb):=ad (HI.put (by omega) _)
    clear HTB HN3
    go_wp2_with fail
    go_roundw
    case rel=>exact⟨q+1,rfl,by omega,HNX⟩
    case measure=>
     simp only[intOf]
     omega
   ·obtain rfl:q=n:=by omega
    have hng:¬(q:Int)<(q:Int):=by omega
    have HKD:=ad (kg wr ⟨4,0,s,some (ak tb 0),q,q⟩ HN.1 (show(q:Int)<=_ by omega))
    have HB:=ad HI.below
    clear HTB HN3 HI hlt
    go_wp2_with fail
    refine HKD.mono ?_
    rintro e w9 ⟨rfl,hb⟩
    go_wp2_with fail
    go_ret
    exact⟨rfl,HB.trans (hb.mono HB.size)⟩
def Dr:List UInt8:=[116,114,117,101]
def zi:Tm:=.mk 3 0 Dr []
def sm:Value:=.agg #[ae 0,ae 0,ai,aj]
theorem ve {w:World} {S:Nat->Prop} {y:TV} {k n:Int} {s:List UInt8} (h:aI w S y (.mk k n s [])):y.k=k/\y.n=n/\y.s=s/\y.len=0/\s.length<=maxLen:=by
 cases h with
 |mk _ args xs h1 h2 h3 hc ht=>exact⟨rfl,rfl,rfl,h2.symm,h3⟩
theorem zQ {w:World} {S:Nat->Prop} {y:TV} {k n:Int} {s:List UInt8} (h:aI w S y (.mk k n s [])) (w':World) (S':Nat->Prop):aI w' S' y (.mk k n s []):=by
 obtain⟨h1,h2,h3,h4,h5⟩:=ve h
 obtain⟨k',n',s',A,len,cap⟩:=y
 dsimp only at h1 h2 h3 h4
 subst h1 h2 h3 h4
 exact aI.leaf w' S' _ _ _ _ _ h5
theorem sW (u:World) (G:Nat->Prop) (x:TV) (t:Tm) (hx:aI u (CK u G) x t) (hm:t.may=true) (hsz:t.size<=2000) (hk:x.k=4) (hs:x.s≠[58,45]):
 Calls prog 34 #[aU x] u fun e u'=>∃y z:TV,e=.returned (.tuple #[aU y,aU z,ae 0,sm])/\aI u' (uc u u' G) y t/\aI u' (uc u u' G) z zi/\aE u u':=by
 refine aa fun P hP=>?_
 have HP:=ad hP
 obtain⟨k,n,s,A,len,cap⟩:=x
 dsimp only at hk hs
 subst hk
 have hsb:(s==[58,45])=false:=beq_false_of_ne hs
 obtain⟨W,hW⟩:∃W,W=(((u.alloc (.cells #[ae 4,ae n,af s,.slice A len cap] 27)).alloc (.cells #[ae 0,ae 0,ai,aj] 27)).alloc (.cells #[ae 0,ae 0,ai,aj] 27)).alloc (.cells #[ae 0,ae 0,ai,aj] 27):=⟨_,rfl⟩
 have hbW:aE u W:=by rw[hW];exact((aB.alloc (by simp) _).alloc (by simp<;>omega) _).alloc (by simp<;>omega) _
 have h4:W.heap[u.heap.size]?=some (.cells #[ae 4,ae n,af s,.slice A len cap] 27 (0,0))/\(∀i,1<=i->i<=3->W.heap[u.heap.size+i]?=some (.cells #[ae 0,ae 0,ai,aj] 27 (0,0))):=by
  rw[hW]
  refine⟨?_,fun i h1 h3=>?_⟩
  ·rw[aw _ _ _ (by simp<;>omega),aw _ _ _ (by simp<;>omega),aw _ _ _ (by simp)]
   exact az
  ·have hn:∀(w:World) (j:Nat),w.heap.size=j->(w.alloc (.cells #[ae 0,ae 0,ai,aj] 27)).heap[j]?=some (.cells #[ae 0,ae 0,ai,aj] 27 (0,0)):=fun w j h=>by rw[<-h];exact az
   rcases(show i=1\/i=2\/i=3 by omega)with rfl|rfl|rfl
   ·rw[aw _ _ _ (by simp<;>omega),aw _ _ _ (by simp)]
    exact hn _ _ (by simp)
   ·rw[aw _ _ _ (by simp)]
    exact hn _ _ (by simp)
   ·exact hn _ _ (by simp)
 have HXW:Hid (aI W (CK W fun b=>b<u.heap.size/\G b) ⟨4,n,s,A,len,cap⟩ t):=ad (hx.move fun b hb=>⟨⟨hb.1.keep (hbW.block b hb.1.lt),hb.1.lt,hb.2⟩,hbW.block b hb.1.lt⟩)
 have HB:=ad hbW
 have H4:=ad h4
 have HZ:=ad (aD hsz hm)
 obtain⟨z0,z1,z2,z3,-⟩:=aH h4.1
 have hlW:u.heap.size+3<W.heap.size:=(ap (h4.2 3 (by omega) (by omega))).1
 clear hP hx hm hsz hs hbW h4
 unfold aU
 go_enter func34,ntmps34
 go_upto_region 1 with fail
 rw[<-hW]
 clear hW
 go_wp2_with fail
 refine(cY W ⟨4,n,s,A,len,cap⟩ t (HXW.at fun b hb=>hb.1.lt) (by have:=HZ.1;omega) (by have:=HZ.1;have:=cV t;omega)).mono ?_
 rintro e w1 ⟨rfl,hb1⟩
 rw[ew HZ.2 HZ.1]
 obtain⟨V,hV⟩:∃V,V=(w1.alloc (.cells #[ae 4,ae n,af s,.slice A len cap] 27)).alloc (.cells #[ae 3,ae 0,.string ⟨#[116,114,117,101]⟩,aj] 27):=⟨_,rfl⟩
 have hbV:aE w1 V:=by rw[hV];exact aB.alloc (by simp) _
 have hbWV:=hb1.trans (hbV.mono hb1.size)
 have hV6:V.heap[w1.heap.size]?=some (.cells #[ae 4,ae n,af s,.slice A len cap] 27 (0,0)):=by
  rw[hV,aw _ _ _ (by simp)]
  exact az
 have hV7:V.heap[w1.heap.size+1]?=some (.cells #[ae 3,ae 0,.string ⟨#[116,114,117,101]⟩,aj] 27 (0,0)):=by
  have:=heap_alloc_new (w1.alloc (.cells #[ae 4,ae n,af s,.slice A len cap] 27)) (.cells #[ae 3,ae 0,.string ⟨#[116,114,117,101]⟩,aj] 27)
  rw[World.size_alloc]at this
  rw[hV];exact this
 have hV4:V.heap[u.heap.size]?=some (.cells #[ae 4,ae n,af s,.slice A len cap] 27 (0,0))/\(∀i,1<=i->i<=3->V.heap[u.heap.size+i]?=some (.cells #[ae 0,ae 0,ai,aj] 27 (0,0))):=⟨(hbWV.block _ (by omega)).trans H4.1,fun i h1 h3=>(hbWV.block _ (by omega)).trans (H4.2 i h1 h3)⟩
 have HXV:Hid (aI V (CK V fun b=>b<u.heap.size/\G b) ⟨4,n,s,A,len,cap⟩ t):=ad (HXW.move fun b hb=>⟨⟨hb.1.keep (hbWV.block b hb.1.lt),hb.2⟩,hbWV.block b hb.1.lt⟩)
 have HBV:=ad (HB.trans (hbWV.mono HB.size))
 have HV4:=ad hV4
 have HV67:=ad (aD hV6 hV7)
 have hW1:=(hb1.block _ (by omega)).trans H4.1
 obtain⟨z0,z1,z2,z3,-⟩:=aH hV4.1
 obtain⟨w10,w11,w12,w13,-⟩:=aH hW1
 obtain⟨x0,x1,x2,x3,-⟩:=aH hV6
 obtain⟨y0,y1,y2,y3,-⟩:=aH hV7
 have hsz1:u.heap.size+3<w1.heap.size:=Nat.lt_of_lt_of_le hlW hb1.size
 clear hb1 hbV hbWV hV4 hV6 hV7 HXW HB H4 hlW hW1
 go_upto_region 5 with fail
 rw[<-hV]
 clear hV
 go_upto_region 12 with fail
 clear w10 w11 w12 w13 z0 z1 z2 z3 x0 x1 x2 x3
 go_wp2_with fail
 refine(nD V (fun _=>False) ⟨3,0,Dr,none,0,0⟩ zi (aI.leaf _ _ _ _ _ _ _ (by decide)) (by decide) (by decide) (by decide) (by decide) (.inl rfl) (by decide+kernel)).mono ?_
 rintro e w2 ⟨y,rfl,hy,hb2⟩
 have hyT:=ve hy
 obtain⟨w3,hw3⟩:∃w3,w3=((((w2.setCell (ak (u.heap.size+2) 0) (ae y.k)).setCell (ak (u.heap.size+2) 1) (ae y.n)).setCell (ak (u.heap.size+2) 2) (af y.s)).setCell (ak (u.heap.size+2) 3) (.slice y.A y.len y.cap)):=⟨_,rfl⟩
 have hlV:w1.heap.size+1<V.heap.size:=(ap HV67.2).1
 have h24:∀i,1<=i->i<=3->w2.heap[u.heap.size+i]?=some (.cells #[ae 0,ae 0,ai,aj] 27 (0,0)):=fun i h1 h3=>(hb2.block _ (by omega)).trans (HV4.2 i h1 h3)
 have hp3:ut u w2 w3 (u.heap.size+2) y:=by rw[hw3];exact oG (h24 2 (by omega) (by omega)) rfl (by omega) y
 have h6:w3.heap[w1.heap.size]?=some (.cells #[ae 4,ae n,af s,.slice A len cap] 27 (0,0)):=(hp3.off _ (by omega)).trans ((hb2.block _ (by omega)).trans HV67.1)
 have HBW3:=ad (hp3.below (HBV.trans (hb2.mono HBV.size)))
 have HX3:Hid (aI w3.drew (CK w3.drew fun b=>b<u.heap.size/\G b) ⟨4,n,s,A,len,cap⟩ t):=ad (HXV.move fun b hb=>by
  have h1:w3.heap[b]?=V.heap[b]?:=(hp3.off _ (by have:=hb.2.1;omega)).trans (hb2.block b hb.1.lt)
  exact⟨⟨aR.keep hb.1 h1,hb.2⟩,h1⟩)
 have hsz3:w1.heap.size<w3.heap.size:=(ap h6).1
 have HS:Hid (∀v,aE w3 v->v.heap[w1.heap.size]?=some (.cells #[ae 4,ae n,af s,.slice A len cap] 27 (0,0))/\v.heap[u.heap.size+1]?=some (.cells #[ae 0,ae 0,ai,aj] 27 (0,0))/\v.heap[u.heap.size+2]?=some (.cells #[ae y.k,ae y.n,af y.s,.slice y.A y.len y.cap] 27 (0,0))/\v.heap[u.heap.size+3]?=some (.cells #[ae 0,ae 0,ai,aj] 27 (0,0))):=ad fun v hv=>
  ⟨(hv.block _ (by omega)).trans h6,(hv.block _ (by omega)).trans ((hp3.off _ (by omega)).trans (h24 1 (by omega) (by omega))),(hv.block _ (by omega)).trans hp3.blk,(hv.block _ (by omega)).trans ((hp3.off _ (by omega)).trans (h24 3 (by omega) (by omega)))⟩
 obtain⟨r0,r1,r2,r3,rf⟩:=aH (h24 2 (by omega) (by omega))
 have HY:=ad (aD hy hyT)
 clear hb2 h24 hp3 h6 HXV HV4 HV67 HBV hlV hy hyT y0 y1 y2 y3
 unfold aU
 go_upto_region 13 with fail
 rw[<-hw3]
 clear hw3 r0 r1 r2 r3 rf
 go_upto_region 17 with fail
 obtain⟨SB,hSB⟩:∃SB:World->Prop,SB=fun v=>(v.heap[w1.heap.size]?=some (.cells #[ae 4,ae n,af s,.slice A len cap] 27 (0,0))/\v.heap[u.heap.size+1+1]?=some (.cells #[ae y.k,ae y.n,af y.s,.slice y.A y.len y.cap] 27 (0,0))):=⟨_,rfl⟩
 have HSC:Hid (∀v,SB v->(v.cell? (ak w1.heap.size 0)=some (ae 4)/\v.cell? (ak w1.heap.size 1)=some (ae n)/\v.cell? (ak w1.heap.size 2)=some (af s)/\v.cell? (ak w1.heap.size 3)=some (.slice A len cap))/\(v.cell? (ak (u.heap.size+1+1) 0)=some (ae y.k)/\v.cell? (ak (u.heap.size+1+1) 1)=some (ae y.n)/\v.cell? (ak (u.heap.size+1+1) 2)=some (af y.s)/\v.cell? (ak (u.heap.size+1+1) 3)=some (.slice y.A y.len y.cap))):=ad fun v hv=>by
  rw[hSB]at hv
  obtain⟨a,b,c,d,-⟩:=aH hv.1
  obtain⟨a',b',c',d',-⟩:=aH hv.2
  exact⟨⟨a,b,c,d⟩,a',b',c',d'⟩
 have H0:Hid (∀v,aE w3 v->SB v):=ad fun v hv=>by rw[hSB];exact⟨(HS.out v hv).1,(HS.out v hv).2.2.1⟩
 have H1:Hid (∀v a0 a1 a2 a3,SB v->SB ((((v.setCell (ak (u.heap.size+1) 0) a0).setCell (ak (u.heap.size+1) 1) a1).setCell (ak (u.heap.size+1) 2) a2).setCell (ak (u.heap.size+1) 3) a3)):=ad fun v a0 a1 a2 a3 hv=>by
  rw[hSB]at hv⊢
  exact⟨(aM _ _ _ _ (by omega)).trans hv.1,(aM _ _ _ _ (by omega)).trans hv.2⟩
 have H3:Hid (∀v a0 a1 a2 a3,SB v->SB ((((v.setCell (ak (u.heap.size+1+1+1) 0) a0).setCell (ak (u.heap.size+1+1+1) 1) a1).setCell (ak (u.heap.size+1+1+1) 2) a2).setCell (ak (u.heap.size+1+1+1) 3) a3)):=ad fun v a0 a1 a2 a3 hv=>by
  rw[hSB]at hv⊢
  exact⟨(aM _ _ _ _ (by omega)).trans hv.1,(aM _ _ _ _ (by omega)).trans hv.2⟩
 have H2:Hid (∀v,SB v->SB ((((v.setCell (ak (u.heap.size+1+1) 0) (ae y.k)).setCell (ak (u.heap.size+1+1) 1) (ae y.n)).setCell (ak (u.heap.size+1+1) 2) (af y.s)).setCell (ak (u.heap.size+1+1) 3) (.slice y.A y.len y.cap))):=ad fun v hv=>by
  rw[hSB]at hv⊢
  exact⟨(aM _ _ _ _ (by omega)).trans hv.1,bc hv.2 rfl _ _ _ _⟩
 have HOW:Hid (Calls prog 69 #[.agg #[ae 4,ae n,af s,.slice A len cap]] w3.drew fun e w4=>∃z:TV,e=.returned (aU z)/\aI w4 (uc w3.drew w4 fun b=>b<u.heap.size/\G b) z t/\Below w3.heap.size w3.drew w4):=ad (vh w3.drew ⟨4,n,s,A,len,cap⟩ t HX3.out (by have:=HZ.1;omega))
 have HR:Hid (∀w4,Below w3.heap.size w3.drew w4->aE w3 w4):=ad fun w4 h=>aA.drew.trans h
 have HR2:Hid (∀w4,aE w3 w4->(w4.cell? (ak (u.heap.size+1) 0)=some (ae 0)/\w4.cell? (ak (u.heap.size+1) 1)=some (ae 0)/\w4.cell? (ak (u.heap.size+1) 2)=some ai/\w4.cell? (ak (u.heap.size+1) 3)=some aj/\(∀o,w4.frozen? ⟨u.heap.size+1,o,none⟩=false))/\(∀o,w4.frozen? ⟨u.heap.size+1+1,o,none⟩=false)/\(w4.cell? (ak (u.heap.size+1+1+1) 0)=some (ae 0)/\w4.cell? (ak (u.heap.size+1+1+1) 1)=some (ae 0)/\w4.cell? (ak (u.heap.size+1+1+1) 2)=some ai/\w4.cell? (ak (u.heap.size+1+1+1) 3)=some aj/\(∀o,w4.frozen? ⟨u.heap.size+1+1+1,o,none⟩=false))):=ad fun w4 h=>by
  obtain⟨-,h1,h2,h3⟩:=HS.out w4 h
  exact⟨aH h1,(aH h2).2.2.2.2,aH h3⟩
 have HD:=ad (HSC.out _ (H0.out _ aA.drew))
 have HSS:=HS
 clear hSB HS HX3 z0 z1 z2 z3 hsb
 go_region_held3 (fun v=>(v.cell? (ak w1.heap.size 0)=some (ae 4)/\v.cell? (ak w1.heap.size 1)=some (ae n)/\v.cell? (ak w1.heap.size 2)=some (af s)/\v.cell? (ak w1.heap.size 3)=some (.slice A len cap))/\(v.cell? (ak (u.heap.size+1+1) 0)=some (ae y.k)/\v.cell? (ak (u.heap.size+1+1) 1)=some (ae y.n)/\v.cell? (ak (u.heap.size+1+1) 2)=some (af y.s)/\v.cell? (ak (u.heap.size+1+1) 3)=some (.slice y.A y.len y.cap)))
  (first|(with_reducible exact HSC.out _ HA3)|(with_reducible exact HSC.out _ HA2)|(with_reducible exact HSC.out _ HA1)|(with_reducible exact HSC.out _ HA)|(with_reducible exact HD.out))
  (first|(go_at_call 69;refine HOW.mono ?_;rintro e w4 ⟨z,rfl,ht4,hb4⟩;have hb5:=HR.out _ hb4;have HA:=H0.out _ hb5;have HA1:=H1.out w4 (ae z.k) (ae z.n) (af z.s) (.slice z.A z.len z.cap) HA;have HA2:=H2.out _ HA1;have HA3:=H3.out _ (ae 0) (ae 0) ai aj HA2;obtain⟨⟨r0,r1,r2,r3,rf⟩,r2f,⟨s0,s1,s2,s3,sf⟩⟩:=HR2.out _ hb5;unfold aU))
 clear HA HA1 HA2 HA3 r0 r1 r2 r3 rf r2f s0 s1 s2 s3 sf hb4 HOW HSC HD HR HR2 H0 H1 H2 H3 SB
 obtain⟨A1,hA1⟩:∃A,A=(((((w4).setCell (ak (u.heap.size+1) 0) (ae z.k)).setCell (ak (u.heap.size+1) 1) (ae z.n)).setCell (ak (u.heap.size+1) 2) (af z.s)).setCell (ak (u.heap.size+1) 3) (.slice z.A z.len z.cap)):=⟨_,rfl⟩
 rw[<-hA1]
 obtain⟨A2,hA2⟩:∃A,A=(((((A1).setCell (ak (u.heap.size+1+1) 0) (ae y.k)).setCell (ak (u.heap.size+1+1) 1) (ae y.n)).setCell (ak (u.heap.size+1+1) 2) (af y.s)).setCell (ak (u.heap.size+1+1) 3) (.slice y.A y.len y.cap)):=⟨_,rfl⟩
 rw[<-hA2]
 obtain⟨A3,hA3⟩:∃A,A=(((((A2).setCell (ak (u.heap.size+1+1+1) 0) (ae 0)).setCell (ak (u.heap.size+1+1+1) 1) (ae 0)).setCell (ak (u.heap.size+1+1+1) 2) ai).setCell (ak (u.heap.size+1+1+1) 3) aj):=⟨_,rfl⟩
 rw[<-hA3]
 have HQ:Hid ((A3.heap[u.heap.size+1]?=some (.cells #[ae z.k,ae z.n,af z.s,.slice z.A z.len z.cap] 27 (0,0))/\A3.heap[u.heap.size+1+1]?=some (.cells #[ae y.k,ae y.n,af y.s,.slice y.A y.len y.cap] 27 (0,0))/\A3.heap[u.heap.size+1+1+1]?=some (.cells #[ae 0,ae 0,ai,aj] 27 (0,0)))/\P (.returned (.tuple #[aU z,aU y,ae 0,sm])) A3):=ad (by
  obtain⟨-,k1,k2,k3⟩:=HSS.out w4 hb5
  have hp1:ut u w4 A1 (u.heap.size+1) z:=by rw[hA1];exact oG k1 rfl (by omega) z
  have hp2:ut u A1 A2 (u.heap.size+1+1) y:=by rw[hA2];exact oG ((hp1.off _ (by omega)).trans k2) rfl (by omega) y
  have hp3:ut u A2 A3 (u.heap.size+1+1+1) ⟨0,0,[],none,0,0⟩:=by rw[hA3];exact oG ((hp2.off _ (by omega)).trans ((hp1.off _ (by omega)).trans k3)) rfl (by omega) ⟨0,0,[],none,0,0⟩
  refine⟨⟨(hp3.off _ (by omega)).trans ((hp2.off _ (by omega)).trans hp1.blk),(hp3.off _ (by omega)).trans hp2.blk,hp3.blk⟩,?_⟩
  rw[HP.out]
  refine⟨z,y,rfl,ht4.move fun b hb=>?_,zQ HY.1 _ _,hp3.below (hp2.below (hp1.below (HBW3.trans (hb5.mono HBW3.size))))⟩
  have h4:¬(u.heap.size<b/\b<=u.heap.size+3):=fun h=>by have:=(hb.2 (show b<w3.heap.size by omega)).1;omega
  have hk:A3.heap[b]?=w4.heap[b]?:=(hp3.off b (by omega)).trans ((hp2.off b (by omega)).trans (hp1.off b (by omega)))
  exact⟨⟨hb.1.keep hk,fun h=>(hb.2 (show b<w3.heap.size by omega)).2⟩,hk⟩)
 clear hA1 hA2 hA3 HSS HP HBW3 HY HZ ht4 hb5 hsz1 hsz3
 go_wp2_with fail
 obtain⟨⟨q1,q2,q3⟩,hq⟩:=HQ.out
 obtain⟨f0,f1,f2,f3,-⟩:=aH q1
 obtain⟨g0,g1,g2,g3,-⟩:=aH q2
 obtain⟨h0,h1,h2,h3,-⟩:=aH q3
 exact bodyPost_ret (v:=.tuple #[aU z,aU y,ae 0,sm]) (by simp[results,results34,go_sem,f0,f1,f2,f3,g0,g1,g2,g3,h0,h1,h2,h3,aU,sm]) rfl hq
def mC (u:World) (l:List bZ) (e:Ending) (u':World):Prop:=
 ∃x:TV,e=.returned (aU x)/\aI u' (l4 u.heap.size u') x (lH l)/\aE u u'
theorem BS (l:List bZ):(gE l).1.size<=1+7*(gE l).2:=(mV _ l).2
theorem Bz (l:List bZ) (u:World) (A:Option Addr) (c:Nat) (hlc:l.length<=c) (hp:eT u A l) (hl:l.length<=100000):
 Calls prog 6 #[.slice A l.length c] u fun e u'=>mC u l e u':=by
 obtain⟨R,hR⟩:∃R:Ending->World->Prop,R=fun e u'=>mC u l e u':=⟨_,rfl⟩
 rw[<-hR]
 have HRR:=ad hR
 clear hR
 obtain⟨W,hW⟩:∃W,W=u.alloc (.cells #[ae 0,ae 0,ai,aj] 27):=⟨_,rfl⟩
 have hbW:aE u W:=by rw[hW];exact aB
 obtain⟨br,hbr⟩:∃b,b=u.heap.size:=⟨_,rfl⟩
 have hr0:W.heap[br]?=some (.cells #[ae 0,ae 0,ai,aj] 27 (0,0)):=by rw[hW,hbr];exact az
 have hC:=Bu l.length l W A c aC hlc (hp.later hbW)
 have hsz:(gE l).1.size<=1000000:=by have:=BS l;have:=pG l;omega
 have HC:=ad hC
 have HBW:=ad hbW
 have HR0:=ad hr0
 have HSZ:=ad hsz
 have HB:=ad hbr
 clear hC hbW hr0 hsz hp hl hlc
 go_enter func6,ntmps6
 go_upto_region 1 with fail
 rw[<-hW,<-hbr]
 clear hW hbr
 go_wp2_with fail
 refine HC.mono ?_
 rintro e W1 ⟨x,rfl,hx,hb1⟩
 rw[aN]
 obtain⟨V,hV⟩:∃V,V=W1.alloc (.cells #[ae x.k,ae x.n,af x.s,.slice x.A x.len x.cap] 27):=⟨_,rfl⟩
 obtain⟨bx,hbx⟩:∃b,b=W1.heap.size:=⟨_,rfl⟩
 have hbV:aE W1 V:=by rw[hV];exact aB
 have hx0:V.heap[bx]?=some (.cells #[ae x.k,ae x.n,af x.s,.slice x.A x.len x.cap] 27 (0,0)):=by rw[hV,hbx];exact az
 have hxV:aO V V.heap.size x (gE l).1:=((hx.at (B:=W1.heap.size) fun q hq=>hq.2.lt).blw hbV).up hbV.size
 have hM:=sa (gE l).1.size (gE l).1 V x aC (by have:=HSZ.out;omega) hxV
 rw[aN]at hM
 have HM:=ad hM
 have hrl:br<W.heap.size:=(ap HR0.out).1
 have HBV:Hid (aE u V):=ad ((HBW.trans (hb1.mono HBW.size)).trans (hbV.mono (Nat.le_trans HBW.size hb1.size)))
 have HRV:Hid (V.heap[br]?=some (.cells #[ae 0,ae 0,ai,aj] 27 (0,0))):=ad (by rw[hbV.block br (by have:=hb1.size;omega),hb1.block br hrl];exact HR0.out)
 have HX0:=ad hx0
 clear hM hx hb1 hbV hx0 hxV hrl
 go_upto_region 2 with fail
 rw[<-hV,<-hbx]
 clear hV hbx
 obtain⟨f0,f1,f2,f3,-⟩:=aH HX0.out
 go_wp2_with fail
 refine HM.mono ?_
 rintro e W2 ⟨y,rfl,hy,hb2⟩
 have hrl:br<V.heap.size:=(ap HRV.out).1
 have HR2:=ad ((hb2.block br hrl).trans HRV.out)
 have HFIN:Hid (mC u l (.returned (aU y)) ((((W2.setCell (ak br 0) (ae y.k)).setCell (ak br 1) (ae y.n)).setCell (ak br 2) (af y.s)).setCell (ak br 3) (.slice y.A y.len y.cap))):=ad (by
  have h0:=HB.out
  refine⟨y,rfl,?_,?_⟩
  ·exact hy.keep (fun q hq=>⟨by have:=hq.1;have:=HBV.size;omega,hq.2.keep (aM _ _ _ _ (by have:=hq.1;omega))⟩) (fun q hq=>aM _ _ _ _ (by have:=hq.1;omega))
  ·have h1:=HBV.trans (hb2.mono HBV.size)
   exact(((h1.setCell (p:=(ak br 0)) (by simp only;omega) _).setCell (p:=(ak br 1)) (by simp only;omega) _).setCell (p:=(ak br 2)) (by simp only;omega) _).setCell (p:=(ak br 3)) (by simp only;omega) _)
 have HC4:=ad (bc HR2.out rfl (ae y.k) (ae y.n) (af y.s) (.slice y.A y.len y.cap))
 rw[aN]
 clear f0 f1 f2 f3 hy hb2 hrl
 obtain⟨r0,r1,r2,r3,rf⟩:=aH HR2.out
 go_wp2_with fail
 obtain⟨z0,z1,z2,z3,-⟩:=aH HC4.out
 refine⟨rfl,.agg #[ae y.k,ae y.n,af y.s,.slice y.A y.len y.cap],by simp[results,results6,go_sem,z0,z1,z2,z3],?_⟩
 rw[HRR.out]
 exact HFIN.out
theorem oA (u:World) (A:Option Addr) (n c:Nat):Calls prog 5 #[.slice A n c] u fun e u'=>e=.returned (.bool (decide (60<n)))/\u'=u:=by
 go_enter func5,ntmps5
 go_wp2_with fail
 go_ret
 exact⟨by congr 2;simp;omega,rfl⟩
end
end Go.Proofs.YtigeofkllldilaaGreatDoor
