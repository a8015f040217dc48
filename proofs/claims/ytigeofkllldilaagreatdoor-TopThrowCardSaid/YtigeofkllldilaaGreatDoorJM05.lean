import Derived.Test.YtigeofkllldilaaGreatDoorJM00
import Derived.WalkSpells
import Derived.Deep.LoopGhost
set_option maxHeartbeats 32000000
set_option maxRecDepth 100000
set_option linter.unusedSectionVars false
open Go.Proofs.Tryz
namespace Go.Proofs.YtigeofkllldilaaGreatDoor
section
open Go.RowKit
theorem CD (w:World) (x:TV) (hs:x.s.length<=maxLen) (hl:x.len<=maxLen):
 Calls prog 229 #[aU x] w fun e w'=>e=.returned (.bool (eR x.k x.n x.s x.len))/\aE w w':=by
 obtain⟨k,n,s,A,m,c⟩:=x
 simp only at hs hl
 unfold aU
 simp only
 obtain⟨r,hr⟩:∃r,r=eR k n s m:=⟨_,rfl⟩
 rw[<-hr]
 have HRR:=ad hr
 have hs':(s.length:Int)<=9223372036854775807:=by unfold maxLen at hs;omega
 have hm':(m:Int)<=9223372036854775807:=by unfold maxLen at hl;omega
 clear hr hs hl
 by_cases h1:k=1
 ·subst h1
  go_enter func229,ntmps229
  go_wp2_with fail
  all_goals
   go_ret
   refine⟨?_,aB⟩
   have h:=HRR.out
   clear HRR
   subst h
   congr 2
   simp_all [eR]<;>(first|(intros;omega)|(rw[Bool.eq_iff_iff];simp;omega)|(rw[Bool.eq_iff_iff];simp))
 by_cases h2:k=2
 ·subst h2
  clear h1
  go_enter func229,ntmps229
  go_wp2_with fail
  all_goals
   go_ret
   refine⟨?_,aB⟩
   have h:=HRR.out
   clear HRR
   subst h
   congr 2
   simp_all [eR]<;>(first|(intros;omega)|(rw[Bool.eq_iff_iff];simp;omega)|(rw[Bool.eq_iff_iff];simp))
 by_cases h3:k=3
 ·subst h3
  clear h1 h2
  go_enter func229,ntmps229
  go_wp2_with fail
  all_goals
   go_ret
   refine⟨?_,aB⟩
   have h:=HRR.out
   clear HRR
   subst h
   congr 2
   simp_all [eR]<;>(first|(intros;omega)|(rw[Bool.eq_iff_iff];simp;omega)|(rw[Bool.eq_iff_iff];simp))
 by_cases h4:k=4
 ·subst h4
  clear h1 h2 h3
  go_enter func229,ntmps229
  go_wp2_with fail
  all_goals
   go_ret
   refine⟨?_,aB⟩
   have h:=HRR.out
   clear HRR
   subst h
   congr 2
   simp_all [eR]<;>(first|(intros;omega)|(rw[Bool.eq_iff_iff];simp;omega)|(rw[Bool.eq_iff_iff];simp))
 ·go_enter func229,ntmps229
  go_wp2_with fail
  all_goals
   go_ret
   refine⟨?_,aB⟩
   have h:=HRR.out
   clear HRR
   subst h
   congr 2
   simp_all [eR]
structure eD where
 bad:Bool
 size:Nat
 deep:Nat
def fe (w:World) (b:Nat) (m:eD):Prop:=w.heap[b]?=some (.cells #[.bool m.bad,ae m.size,ae m.deep] 153 (0,0))
def eD.step (m:eD) (k n:Int) (s:List UInt8) (a d:Nat):eD:=⟨m.bad|| !eR k n s a,m.size+1,max m.deep d⟩
theorem dR {w1:World} {b:Nat} {a0 a1 a2:Value} {t:TypeId} (h:w1.heap[b]?=some (.cells #[a0,a1,a2] t (0,0))):
 w1.cell? (ak b 0)=some a0/\w1.cell? (ak b 1)=some a1/\w1.cell? (ak b 2)=some a2/\(∀o,w1.frozen? ⟨b,o,none⟩=false):=
 ⟨by rw[cell_of_row w1 b 0 _ t (0,0) h];rfl,by rw[cell_of_row w1 b 1 _ t (0,0) h];rfl,by rw[cell_of_row w1 b 2 _ t (0,0) h];rfl,fun o=>by simp[World.frozen?,h]⟩
theorem yS (w:World) (b:Nat) (m:eD) (x:TV) (d:Nat) (hs:x.s.length<=maxLen) (hl:x.len<=maxLen) (hb:fe w b m) (hsz:m.size<=1000000000):
 Calls prog 135 #[ah b,aU x,ae d] w fun e w'=>e=am/\fe w' b (m.step x.k x.n x.s x.len d)/\Fr (fun k=>k=b) w w':=by
 have HM:Hid (∀W:World,Calls prog 229 #[aU x] W fun e W'=>e=.returned (.bool (eR x.k x.n x.s x.len))/\aE W W'):=ad fun W=>CD W x hs hl
 obtain⟨k,n,s,A,a,c⟩:=x
 unfold aU at*
 simp only at HM⊢
 unfold eD.step
 generalize eR k n s a=q at*
 obtain⟨bad,sz,dp⟩:=m
 simp only at hsz⊢
 have hbl:b<w.heap.size:=(ap hb).1
 have hne:b≠w.heap.size:=by omega
 unfold fe at hb
 simp only at hb
 have c0:w.cell? (ak b 0)=some (.bool bad):=by rw[cell_of_row w b 0 _ _ (0,0) hb];rfl
 have c1:w.cell? (ak b 1)=some (ae sz):=by rw[cell_of_row w b 1 _ _ (0,0) hb];rfl
 have c2:w.cell? (ak b 2)=some (ae dp):=by rw[cell_of_row w b 2 _ _ (0,0) hb];rfl
 have hf:∀o,w.frozen? ⟨b,o,none⟩=false:=fun o=>by simp[World.frozen?,hb]
 have HB:=ad hb
 clear hb
 by_cases hdd:dp<d
 ·have hmax:max dp d=d:=by omega
  have hdd':(dp:Int)<(d:Int):=by omega
  have hmx:max (dp:Int) (d:Int)=(d:Int):=by omega
  rw[hmax]
  clear hmax hdd
  cases q
  ·go_enter func135,ntmps135
   go_wp2_with fail
   refine(HM.out _).mono ?_
   rintro e w2 ⟨rfl,hb2⟩
   have hw2:w2.heap[b]?=some (.cells #[.bool bad,ae ((sz:Int)+1),ae (d:Nat)] 153 (0,0)):=by
    rw[hb2.block b (by simp[World.setCell];omega),aw _ _ _ (by simp[World.setCell];omega)]
    exact aK (aK HB.out _) _
   have hf2:Fr (fun k=>k=b) w w2:=(((Fr.refl (fun k=>k=b) w).setCell (p:=(ak b 1)) (.inl rfl) _).setCell (p:=(ak b 2)) (.inl rfl) _).alloc _|>.step hb2
   have HF2:=ad hf2
   have HW2:=ad hw2
   obtain⟨d0,d1,d2,df⟩:=dR hw2
   clear hb2 hw2 hf2
   go_wp2_with fail
   go_end0
   exact⟨rfl,by rw[Bool.not_false,Bool.or_true];exact aK HW2.out _,HF2.setCell (p:=(ak b 0)) (.inl rfl) _⟩
  ·go_enter func135,ntmps135
   go_wp2_with fail
   refine(HM.out _).mono ?_
   rintro e w2 ⟨rfl,hb2⟩
   have hw2:w2.heap[b]?=some (.cells #[.bool bad,ae ((sz:Int)+1),ae (d:Nat)] 153 (0,0)):=by
    rw[hb2.block b (by simp[World.setCell];omega),aw _ _ _ (by simp[World.setCell];omega)]
    exact aK (aK HB.out _) _
   have hf2:Fr (fun k=>k=b) w w2:=(((Fr.refl (fun k=>k=b) w).setCell (p:=(ak b 1)) (.inl rfl) _).setCell (p:=(ak b 2)) (.inl rfl) _).alloc _|>.step hb2
   have HF2:=ad hf2
   have HW2:=ad hw2
   obtain⟨d0,d1,d2,df⟩:=dR hw2
   clear hb2 hw2 hf2
   go_wp2_with fail
   go_end0
   exact⟨rfl,by rw[Bool.not_true,Bool.or_false];exact HW2.out,HF2.out⟩
 ·have hmax:max dp d=dp:=by omega
  have hdd':¬(dp:Int)<(d:Int):=by omega
  have hmx:max (dp:Int) (d:Int)=(dp:Int):=by omega
  rw[hmax]
  clear hmax hdd
  cases q
  ·go_enter func135,ntmps135
   go_wp2_with fail
   refine(HM.out _).mono ?_
   rintro e w2 ⟨rfl,hb2⟩
   have hw2:w2.heap[b]?=some (.cells #[.bool bad,ae ((sz:Int)+1),ae (dp:Nat)] 153 (0,0)):=by
    rw[hb2.block b (by simp[World.setCell];omega),aw _ _ _ (by simp[World.setCell];omega)]
    exact aK (aK HB.out _) _
   have hf2:Fr (fun k=>k=b) w w2:=(((Fr.refl (fun k=>k=b) w).setCell (p:=(ak b 1)) (.inl rfl) _).setCell (p:=(ak b 2)) (.inl rfl) _).alloc _|>.step hb2
   have HF2:=ad hf2
   have HW2:=ad hw2
   obtain⟨d0,d1,d2,df⟩:=dR hw2
   clear hb2 hw2 hf2
   go_wp2_with fail
   go_end0
   exact⟨rfl,by rw[Bool.not_false,Bool.or_true];exact aK HW2.out _,HF2.setCell (p:=(ak b 0)) (.inl rfl) _⟩
  ·go_enter func135,ntmps135
   go_wp2_with fail
   refine(HM.out _).mono ?_
   rintro e w2 ⟨rfl,hb2⟩
   have hw2:w2.heap[b]?=some (.cells #[.bool bad,ae ((sz:Int)+1),ae (dp:Nat)] 153 (0,0)):=by
    rw[hb2.block b (by simp[World.setCell];omega),aw _ _ _ (by simp[World.setCell];omega)]
    exact aK (aK HB.out _) _
   have hf2:Fr (fun k=>k=b) w w2:=(((Fr.refl (fun k=>k=b) w).setCell (p:=(ak b 1)) (.inl rfl) _).setCell (p:=(ak b 2)) (.inl rfl) _).alloc _|>.step hb2
   have HF2:=ad hf2
   have HW2:=ad hw2
   obtain⟨d0,d1,d2,df⟩:=dR hw2
   clear hb2 hw2 hf2
   go_wp2_with fail
   go_end0
   exact⟨rfl,by rw[Bool.not_true,Bool.or_false];exact HW2.out,HF2.out⟩
abbrev CW:=TV×Nat
def cG (x:CW):List Value:=aJ x.1++[ae x.2]
theorem eo (x:CW):(cG x).length=5:=rfl
theorem oz (x:CW):∀u∈cG x,u.oneCell'=true:=by
 intro u hu
 simp[cG,aJ]at hu
 rcases hu with rfl|rfl|rfl|rfl|rfl<;>rfl
theorem uO:∃i z,prog.info? 317=some i/\i.zero=some z/\i.size=5/\i.bytes=64/\z.cells.size=5:=by
 refine⟨_,_,rfl,rfl,?_,?_,?_⟩<;>kernel_rfl
inductive BM (w:World) (B:Nat):List CW->List (Tm×Nat)->Prop
 |nil:BM w B [] []
 |snoc (st:List CW) (pd:List (Tm×Nat)) (x:TV) (t:Tm) (d:Nat) (h:BM w B st pd) (ht:aO w B x t):BM w B (st++[(x,d)]) ((t,d)::pd)
theorem BM.len {w:World} {B:Nat} {st:List CW} {pd:List (Tm×Nat)} (h:BM w B st pd):st.length=pd.length:=by
 induction h with
 |nil=>rfl
 |snoc st pd x t d _ _ ih=>simp[ih]
theorem BM.pop {w:World} {B:Nat} {st:List CW} {t:Tm} {d:Nat} {pd:List (Tm×Nat)} (h:BM w B st ((t,d)::pd)):∃st' x,st=st'++[(x,d)]/\BM w B st' pd/\aO w B x t:=by
 cases h with
 |snoc st pd x t d h ht=>exact⟨st,x,rfl,h,ht⟩
def bN:List (Tm×Nat)->Nat|[]=>0|(t,_)::r=>t.size+bN r
def iP:List (Tm×Nat)->Nat|[]=>0|(t,d)::r=>max (d+t.deep-1) (iP r)
def ki:List (Tm×Nat)->Bool|[]=>true|(t,_)::r=>t.may&&ki r
def eD.all (m:eD) (pd:List (Tm×Nat)):eD:=⟨m.bad|| !ki pd,m.size+bN pd,max m.deep (iP pd)⟩
def da (d:Nat) (l:List Tm):List (Tm×Nat):=l.map fun t=>(t,d)
theorem qA:∀t:Tm,1<=t.deep
 | .mk k n s l=>by rw[Tm.deep];omega
theorem bL:∀t:Tm,1<=t.size
 | .mk k n s l=>by rw[Tm.size];omega
theorem dl (d:Nat) (r:List (Tm×Nat)):∀l:List Tm,bN (da d l++r)=Tm.sizes l+bN r
 |[]=>by simp[da,Tm.sizes]
 |t::l=>by
  have:=dl d r l
  simp only[da,List.map_cons,List.cons_append,bN,Tm.sizes]at this⊢
  omega
theorem mN (d:Nat) (r:List (Tm×Nat)):∀l:List Tm,ki (da d l++r)=(Tm.mays l&&ki r)
 |[]=>by simp[da,Tm.mays]
 |t::l=>by
  have:=mN d r l
  simp only[da,List.map_cons,List.cons_append,ki,Tm.mays]at this⊢
  rw[this,Bool.and_assoc]
theorem lx (d:Nat) (r:List (Tm×Nat)):∀l:List Tm,max d (iP (da (d+1) l++r))=max (d+Tm.deeps l) (iP r)
 |[]=>by simp[da,Tm.deeps]
 |t::l=>by
  have h:=lx d r l
  have hp:=qA t
  simp only[da,List.map_cons,List.cons_append,iP,Tm.deeps]at h⊢
  omega
theorem eD.all_nil (m:eD):m.all []=m:=by
 obtain⟨a,b,c⟩:=m
 simp[eD.all,ki,bN,iP]
theorem mX:∀l:List Tm,l.length<=Tm.sizes l
 |[]=>Nat.zero_le _
 |t::l=>by
  have:=mX l
  have:=bL t
  simp only[List.length_cons,Tm.sizes]
  omega
theorem i8 (t:Tm):t.args.length+1<=t.size:=by
 obtain⟨k,n,s,l⟩:=t
 have:=mX l
 simp only[Tm.args,Tm.size]
 omega
theorem bE (t:Tm):t.size=1+Tm.sizes t.args:=by
 obtain⟨k,n,s,l⟩:=t
 rfl
theorem jL:∀(a:Nat) (l:List Tm),Tm.sizes (l.drop a)<=Tm.sizes l
 |0,l=>by simp
 |a+1,[]=>by simp
 |a+1,t::l=>by
  have:=jL a l
  simp only[List.drop_succ_cons,Tm.sizes]
  omega
theorem dD:∀(l:List Tm) (t:Tm),t∈l->t.size<=Tm.sizes l
 |x::l,t,h=>by
  simp only[Tm.sizes]
  rcases List.mem_cons.1 h with rfl|h
  ·omega
  ·have:=dD l t h
   omega
theorem fH:∀l:List (Tm×Nat),l.length<=bN l
 |[]=>Nat.zero_le _
 |(t,d)::l=>by
  have:=fH l
  have:=bL t
  simp only[List.length_cons,bN]
  omega
theorem eD.all_step (m:eD) (t:Tm) (d:Nat) (r:List (Tm×Nat)) (hd:1<=d):(m.step t.k t.n t.s t.args.length d).all (da (d+1) t.args++r)=m.all ((t,d)::r):=by
 obtain⟨k,n,s,l⟩:=t
 have h:=lx d r l
 simp only[eD.all,eD.step,Tm.k,Tm.n,Tm.s,Tm.args,dl,mN,bN,ki,iP,Tm.size,Tm.may,Tm.deep,eD.mk.injEq]
 refine⟨by cases m.bad<;>cases eR k n s l.length<;>cases Tm.mays l<;>cases ki r<;>rfl,by omega,by omega⟩
structure jj (w:World) (b B:Nat) (st:List CW) (pd:List (Tm×Nat)) (m:eD) (v:Value) (u:World):Prop where
 row:aS u w.heap.size 317 5 cG v st
 stk:BM w B st pd
 meas:fe u b m
 fr:Fr (fun k=>k=b\/w.heap.size<=k) w u
theorem aN (x:TV):aU x=.agg #[ae x.k,ae x.n,af x.s,.slice x.A x.len x.cap]:=rfl
theorem wj (w:World) (b B:Nat) (m:eD) (x:TV) (t:Tm) (hx:aO w B x t) (hB:B<=b) (hb:fe w b m) (hsz:t.size+m.size<=100000000):
 Calls prog 134 #[aU x,.func (Fn.func 135) #[ah b] #[]] w fun e w'=>e=am/\fe w' b (m.all [(t,1)])/\Fr (fun k=>k=b) w w':=by
 have hbl:b<w.heap.size:=(ap hb).1
 obtain⟨i,z,hi,hz,hsi,hby,hzs⟩:=uO
 have hI:jj w b B [(x,1)] [(t,1)] m (al (w.heap.size+1) 1 1) ((w.alloc (.cells (aJ x).toArray 27)).alloc (.cells (cG (x,1)).toArray 317)):=by
  refine⟨?_,.snoc [] [] x t 1 .nil hx,?_,((Fr.refl _ w).alloc _).alloc _⟩
  ·have:=aS.one (B:=w.heap.size) (e:=317) eo (w.alloc (.cells (aJ x).toArray 27)) (x,1) (by simp)
   simpa using this
  ·unfold fe
   rw[aw _ _ _ (by simp;omega),aw _ _ _ hbl]
   exact hb
 have HI:=ad hI
 obtain⟨M,hM⟩:∃M,M=m.all [(t,1)]:=⟨_,rfl⟩
 rw[<-hM]
 have HM:=ad hM
 clear hI hM hx hb
 rw[aN]
 go_enter func134,ntmps134
 go_wp2_with fail
 change Code.wp _ _ _ _ ((w.alloc (.cells (aJ x).toArray 27)).alloc (.cells (cG (x,1)).toArray 317))
 go_loopg [4] t.size (fun g v u=>∃st pd m',jj w b B st pd m' v u/\Hid (m'.all pd=M/\bN pd=g/\m'.size+bN pd<=100000000/\∀p∈pd,1<=p.2/\p.2+p.1.size<=100000001))
 case atStart=>exact⟨_,_,_,HI.out,ad ⟨HM.symm,by simp[bN],by simp[bN];omega,fun p hp=>by simp at hp;subst hp;simp only;omega⟩⟩
 case round=>
  obtain⟨st,pd,m',hR,HH⟩:=hrel
  clear HI
  obtain _|⟨⟨t1,d⟩,pd⟩:=pd
  ·have hl:=hR.stk.len
   obtain rfl:st=[]:=List.eq_nil_of_length_eq_zero hl
   obtain⟨A1,c1,rfl⟩:=hR.row.shape
   have HR:=ad hR
   clear hR hl
   go_wp2_with fail
   go_end0
   have e1:m'=M:=by rw[<-HH.1,eD.all_nil]
   exact⟨rfl,by rw[<-e1];exact HR.meas,HR.fr.mono fun k hk e=>e.elim id (fun h=>by omega)⟩
  ·obtain⟨st,x1,rfl,hs1,ht1⟩:=hR.stk.pop
   obtain⟨tk,tn,ts,tl,tm,targ⟩:=ht1.open
   obtain⟨g,cap,rfl,hg0,hg1,hcap,hcs⟩:=hR.row.cells eo (by simp)
   obtain⟨hd1,hd2⟩:1<=d/\d+t1.size<=100000001:=HH.2.2.2 _ (List.mem_cons_self ..)
   have hal:=eD.all_step m' t1 d pd hd1
   rw[tk,tn,ts,tl]at hal
   have hsz1:bN ((t1,d)::pd)=t1.size+bN pd:=rfl
   have hts:t1.args.length+1<=t1.size:=i8 t1
   have hb9:=HH.2.2.1
   have hps:=bL t1
   have hll:x1.len<=100000000:=by omega
   have hst:st.length<=100000000:=by
    have h1:=hs1.len
    have h2:=fH pd
    omega
   have e0:=(hcs st.length (x1,d) (by simp) 0 _ rfl).1
   have e1:=(hcs st.length (x1,d) (by simp) 1 _ rfl).1
   have e2:=(hcs st.length (x1,d) (by simp) 2 _ rfl).1
   have e3:=(hcs st.length (x1,d) (by simp) 3 _ rfl).1
   have e4:=(hcs st.length (x1,d) (by simp) 4 _ rfl).1
   simp only[Nat.add_zero]at e0
   have hrow:=hR.row
   rw[List.length_append,List.length_cons,List.length_nil]at hrow hcap⊢
   have hfront:=aS.front eo hrow
   have hwr:w.heap.size<=wr.heap.size:=hR.fr.size
   have hF1:Fr (fun k=>k=b\/w.heap.size<=k) w (wr.alloc (.cells (cG (x1,d)).toArray 317)):=hR.fr.alloc _
   have hM1:fe (wr.alloc (.cells (cG (x1,d)).toArray 317)) b m':=by
    unfold fe
    rw[aw _ _ _ (by omega)]
    exact hR.meas
   have hbx:(wr.alloc (.cells (cG (x1,d)).toArray 317)).heap[wr.heap.size]?=some (.cells (cG (x1,d)).toArray 317 (0,0)):=heap_alloc_new wr _
   have hR1:=hfront.alloc (.cells (cG (x1,d)).toArray 317)
   obtain⟨w2,hw2⟩:∃w2,w2=wr.alloc (.cells (cG (x1,d)).toArray 317):=⟨_,rfl⟩
   obtain⟨bx,hbxe⟩:∃bx,bx=wr.heap.size:=⟨_,rfl⟩
   rw[<-hw2]at hF1 hM1 hbx hR1
   rw[<-hbxe]at hbx
   have hrl:st.length<st.length+1:=Nat.lt_succ_self _
   have HT1:=ad ht1
   have HARG:=ad targ
   have HAL:=ad hal
   have HS1:=ad hs1
   have HF1:=ad hF1
   have HM1:=ad hM1
   have HBX:=ad hbx
   have HR1:=ad hR1
   have HTL:=ad tl
   have hcN:(st.length:Int)+1<=(cap:Int):=by omega
   have hg9:g<bx:=by omega
   have hs9:st.length<=cap:=by omega
   clear hR ht1 tk tn ts tl targ hcs hal hs1 hrow hfront hF1 hM1 hbx hR1
   go_wp2_with fail
   change Calls _ _ _ (wr.alloc (.cells (cG (x1,d)).toArray 317)) _
   rw[<-hw2,<-hbxe]
   refine(yS w2 b m' x1 d tm (by unfold maxLen;omega) HM1.out (by omega)).mono ?_
   rintro e w3 ⟨rfl,hm3,hf3⟩
   have hbx2:=(ap HBX.out).1
   have hb3:w3.heap[bx]?=some (.cells (cG (x1,d)).toArray 317 (0,0)):=(hf3.block bx hbx2 (by omega)).trans HBX.out
   have hI3:jj w b B st pd (m'.step x1.k x1.n x1.s x1.len d) (al g st.length cap) w3:=
    ⟨HR1.keep fun k hk=>hf3.block k (HR1.lt k hk).2 (by have:=(HR1.lt k hk).1;omega),HS1.out,hm3,HF1.trans (hf3.weak fun k hk=>.inl hk)⟩
   have HI3:=ad hI3
   have HB3:=ad hb3
   have d3:w3.cell? (ak bx 3)=some (.slice x1.A x1.len x1.cap):=by rw[cell_of_row w3 bx 3 _ _ (0,0) hb3];rfl
   clear hm3 hf3 hb3 hI3 HR1 HM1 HF1 hw2 hbxe e0 e1 e2 e3 e4 hg1 hwr hbx2 HBX
   have hm9:m'.size+1<=100000000:=by omega
   go_wp2_with fail
   go_loopw [4,6] (fun v i u=>∃a st',a<=x1.len/\i=ae ((a:Int)-1)/\Hid (jj w b B st' (da (d+1) (t1.args.drop a)++pd) (m'.step x1.k x1.n x1.s x1.len d) v u/\u.heap[bx]?=some (.cells (cG (x1,d)).toArray 317 (0,0))/\v.ownBlock≠some bx)) (fun _ i _=>(intOf i+1).toNat)
   case atStart=>
    refine⟨x1.len,st,aC,rfl,ad ⟨?_,HB3.out,?_⟩⟩
    ·have e9:t1.args.drop x1.len=[]:=by rw[<-HTL.out,List.drop_length]
     rw[e9]
     exact HI3.out
    ·simp[Value.ownBlock];omega
   case round=>
    obtain⟨a,st',ha,rfl,HR⟩:=hrel
    clear d3
    have d3:wr.cell? (ak bx 3)=some (.slice x1.A x1.len x1.cap):=by rw[cell_of_row wr bx 3 _ _ (0,0) HR.2.1];rfl
    have d4:wr.cell? (ak bx 4)=some (ae d):=by rw[cell_of_row wr bx 4 _ _ (0,0) HR.2.1];rfl
    obtain _|a:=a
    ·have HF:Hid (jj w b B st' (da (d+1) t1.args++pd) (m'.step x1.k x1.n x1.s x1.len d) _ wr):=ad HR.1
     go_wp2_with fail
     have hh:=HH.out
     go_roundg (bN (da (d+1) t1.args++pd))
     case measure=>
      rw[dl,<-hh.2.1]
      show Tm.sizes t1.args+bN pd<t1.size+bN pd
      rw[bE t1]
      omega
     case rel=>
      refine⟨_,_,_,HF.out,ad ⟨by rw[HAL.out];exact hh.1,rfl,?_,?_⟩⟩
      ·rw[dl]
       have h1:=bE t1
       show m'.size+1+_<=_
       omega
      ·intro p hp
       rcases List.mem_append.1 hp with hp|hp
       ·obtain⟨t',ht',rfl⟩:=List.mem_map.1 hp
        have h1:=dD t1.args t' ht'
        have h2:=bE t1
        simp only
        omega
       ·exact hh.2.2.2 p (List.mem_cons_of_mem _ hp)
    ·have hla:a<t1.args.length:=by rw[HTL.out];omega
     obtain⟨y,b9,off9,hA9,hb9',ht9,hc9⟩:=HARG.out a _ (au hla)
     have hdrop:t1.args.drop a=t1.args[a]::t1.args.drop (a+1):=List.drop_eq_getElem_cons hla
     generalize t1.args[a]=ty at ht9 hdrop
     have hbw:=HR.1.fr
     have hc9':∀j u,(aJ y)[j]?=some u->wr.cell? (ak b9 (off9+a*4+j))=some u:=fun j u hu=>
      (hbw.cell (p:=(ak b9 (off9+a*4+j))) (by simp only;omega) (by simp only;omega)).trans (hc9 j u hu)
     have f0:=hc9' 0 _ rfl
     have f1:=hc9' 1 _ rfl
     have f2:=hc9' 2 _ rfl
     have f3:=hc9' 3 _ rfl
     simp only[Nat.add_zero]at f0
     have hlen:=HR.1.stk.len
     have hst9:st'.length<=100000000:=by
      have h1:=fH (da (d+1) (t1.args.drop (a+1))++pd)
      rw[dl]at h1
      have h2:=jL (a+1) t1.args
      have h3:=bE t1
      have h4:=HH.2.2.1
      have h5:bN ((t1,d)::pd)=t1.size+bN pd:=rfl
      omega
     have hwr9:=hbw.size
     have hbb9:b<wr.heap.size:=by omega
     have hblk:=heap_alloc_new wr (.cells (cG (y,d+1)).toArray 317)
     obtain⟨g9,cap9,w9,hr9,hR9,hg9',ho9⟩:=aS.push (P:=prog) 318 underlying318 hi hz hsi hby hzs (by decide) eo oz
      (w:=(wr.alloc (.cells (cG (y,d+1)).toArray 317)).drew) (HR.1.row.later (aB.drew)) (y,d+1) wr.heap.size 1
      (fun j u hu=>bV wr _ _ j u (by simpa using hu)) (by unfold maxLen;omega) (by omega) (by simp;omega)
     obtain⟨v9,hv9⟩:∃v9,v9=al g9 (st'.length+1) cap9:=⟨_,rfl⟩
     rw[<-hv9]at hr9 hR9
     have hr9:(Builtin.append_ #[318,318] 318 #[_,al wr.heap.size 1 1]).run prog (wr.alloc (.cells #[ae y.k,ae y.n,af y.s,.slice y.A y.len y.cap,ae ((d:Int)+1)] 317)).drew=.ok v9 w9:=hr9
     have hbx3:=(ap HR.2.1).1
     have hne:u4.ownBlock≠some b:=fun e=>by have:=(HR.1.row.lt b e).1;omega
     have hI9:jj w b B (st'++[(y,d+1)]) (da (d+1) (t1.args.drop a)++pd) (m'.step x1.k x1.n x1.s x1.len d) v9 w9:=by
      refine⟨hR9,?_,?_,?_⟩
      ·rw[hdrop]
       exact .snoc _ _ y ty (d+1) HR.1.stk ht9
      ·unfold fe
       rw[hg9'.block b (by simp;omega) (fun e=>hne e.symm)]
       exact(aw _ _ _ hbb9).trans HR.1.meas
      ·exact((HR.1.fr.alloc _).drew).grown hg9' (fun k e=>.inl (.inr (HR.1.row.lt k e).1))
     have hbx9:w9.heap[bx]?=some (.cells (cG (x1,d)).toArray 317 (0,0)):=by
      rw[hg9'.block bx (by simp;omega) (fun e=>HR.2.2 e.symm)]
      exact(aw _ _ _ hbx3).trans HR.2.1
     have hob9:v9.ownBlock≠some bx:=by
      rw[hv9]
      intro e
      have e':g9=bx:=by simpa[Value.ownBlock]using e
      rcases ho9 with h|h
      ·exact HR.2.2 (by rw[h,e'])
      ·simp at h
       omega
     have HX9:=ad (aD hI9 (aD hbx9 hob9))
     have hd9:(d:Int)+1<=200000000:=by omega
     have hwd:IntKind.i64.wrap ((d:Int)+1)=(d:Int)+1:=IntWalk.i64_in _ (by omega)
     have ha9:(a:Int)<(x1.len:Int):=by omega
     have hl9:wr.heap.size≠bx:=by omega
     have hbl9:bx<wr.heap.size:=hbx3
     have hb99:b9<wr.heap.size:=by omega
     rw[show(((a+1:Nat):Int)-1)=(a:Int)by omega]
     clear hI9 hbx9 hob9 hne hg9' ho9 hblk hR9 hv9 hc9 hc9' hdrop ht9 hbw hlen
     obtain⟨xk,xn,xs,xA,xl,xc⟩:=x1
     simp only at hA9 d3 d4 ha9 ha
     subst hA9
     go_wp2_with fail
     go_region_law (first|(refine ks rfl (.tmp 39) (.tmp 50) 318 rfl (by rfl) (by rfl) hr9 ?_))
     all_goals
      go_wp2_with fail
      go_roundw
      case rel=>exact⟨a,_,by omega,rfl,HX9⟩
      case measure=>simp[intOf]
def eD.none:eD:=⟨false,0,0⟩
theorem Bm (t:Tm):eD.none.all [(t,1)]=⟨!t.may,t.size,t.deep⟩:=by
 have:=qA t
 have e:max 0 (max (1+t.deep-1) 0)=t.deep:=by omega
 simp only[eD.none,eD.all,ki,bN,iP,Bool.and_true,Bool.false_or,Nat.zero_add,Nat.add_zero,e]
theorem ke (w:World) (x:TV) (t:Tm) (hx:aO w w.heap.size x t) (hsz:t.size<=10000000):
 Calls prog 63 #[aU x] w fun e w'=>e=.returned (.agg #[.bool (!t.may),ae t.size,ae t.deep])/\aE w w':=by
 have HX:=ad hx
 have hmm:=Bm t
 generalize (!t.may)=q at hmm⊢
 have HMM:=ad hmm
 clear hx hmm
 rw[aN]
 go_enter func63,ntmps63
 go_wp2_with fail
 generalize hW:World.alloc (World.alloc (World.alloc w (.cells #[ae x.k,ae x.n,af x.s,.slice x.A x.len x.cap] 27)) (.cells #[.bool false,ae 0,ae 0] 153)) (.cells #[.bool false,ae 0,ae 0] 153)=W
 have hbW:fe W (w.heap.size+1+1) eD.none:=by
  unfold fe
  rw[<-hW]
  have:=heap_alloc_new ((w.alloc (.cells #[ae x.k,ae x.n,af x.s,.slice x.A x.len x.cap] 27)).alloc (.cells #[.bool false,ae 0,ae 0] 153)) (.cells #[.bool false,ae 0,ae 0] 153)
  simpa[eD.none]using this
 have hrW:W.heap[w.heap.size+1]?=some (.cells #[.bool false,ae 0,ae 0] 153 (0,0)):=by
  rw[<-hW,aw _ _ _ (by simp)]
  have:=heap_alloc_new (w.alloc (.cells #[ae x.k,ae x.n,af x.s,.slice x.A x.len x.cap] 27)) (.cells #[.bool false,ae 0,ae 0] 153)
  simpa using this
 have hfW:aE w W:=by rw[<-hW];exact(((Below.refl _ w).alloc aC _).alloc (by simp) _).alloc (by simp;omega) _
 refine(wj W (w.heap.size+1+1) w.heap.size eD.none x t (HX.blw hfW) (by omega) hbW (by simp only[eD.none];omega)).mono ?_
 rintro e w2 ⟨rfl,hb2,hf2⟩
 rw[HMM.out]at hb2
 have hB2:=ad (hfW.trans (hf2.below (B:=w.heap.size) hfW.size (fun k hk=>by omega)))
 obtain⟨c0,c1,c2,hf⟩:=dR hb2
 obtain⟨d0,d1,d2,df⟩:=dR ((hf2.block (w.heap.size+1) (ap hrW).1 (by omega)).trans hrW)
 clear hb2 hf2 hfW hbW hW hrW
 go_wp2_with fail
 refine bodyPost_ret (v:=.agg #[.bool q,ae t.size,ae t.deep]) (by simp[results,results63,go_sem,d0,d1,d2]) rfl ⟨rfl,?_⟩
 repeat (refine Below.setCell ?_ (by simp;try omega) _)
 exact hB2.out
def dG (t:Tm):Int:=if t.may=false then 2 else if 2000<t.deep then 4 else if 20000<t.size then 3 else 0
theorem xG (a:Bool) (b c:Int) (w:World):(Instr.field 153 (.agg #[.bool a,ae b,ae c]) 1).run prog w=.ok (ae b) w:=by kernel_rfl
theorem qO (w:World) (x:TV) (t:Tm) (hx:aO w w.heap.size x t) (hsz:t.size<=10000000):
 Calls prog 146 #[aU x] w fun e w'=>e=.returned (ae t.size)/\aE w w':=by
 have HM:Hid (∀o,Calls prog 63 #[aU x] (w.alloc o) fun e w'=>e=.returned (.agg #[.bool (!t.may),ae t.size,ae t.deep])/\Below (w.alloc o).heap.size (w.alloc o) w'):=
  ad fun o=>ke _ x t (hx.later aB) hsz
 have hms:=xG
 clear hx
 rw[aN]at*
 go_enter func146,ntmps146
 go_wp2_with fail
 refine(HM.out _).mono ?_
 rintro e w1 ⟨rfl,hb⟩
 have hb9:=((Below.refl w.heap.size w).alloc aC _).trans (hb.mono (by simp))
 have HB:=ad hb9
 clear hb hb9
 go_wp2_with fail
 go_ret
 exact⟨rfl,HB.out⟩
theorem cY (w:World) (x:TV) (t:Tm) (hx:aO w w.heap.size x t) (hsz:t.size<=10000000) (hdp:t.deep<=10000000):
 Calls prog 26 #[aU x] w fun e w'=>e=.returned (ae (dG t))/\aE w w':=by
 have HM:Hid (∀o,Calls prog 63 #[aU x] (w.alloc o) fun e w'=>e=.returned (.agg #[.bool (!t.may),ae t.size,ae t.deep])/\Below (w.alloc o).heap.size (w.alloc o) w'):=
  ad fun o=>ke _ x t (hx.later aB) hsz
 clear hx
 rw[aN]at*
 obtain⟨r,hr⟩:∃r,r=dG t:=⟨_,rfl⟩
 rw[<-hr]
 have HR:=ad hr
 unfold dG at HR
 clear hr
 generalize t.may=q at*
 generalize t.size=n at*
 generalize t.deep=d at*
 cases q
 ·go_enter func26,ntmps26
  go_wp2_with fail
  refine(HM.out _).mono ?_
  rintro e w1 ⟨rfl,hb⟩
  have HB:=ad (((Below.refl w.heap.size w).alloc aC _).trans (hb.mono (by simp)))
  clear hb
  go_wp2_with fail
  go_ret
  exact⟨by rw[HR.out];simp,HB.alloc HB.size _⟩
 ·go_enter func26,ntmps26
  go_wp2_with fail
  refine(HM.out _).mono ?_
  rintro e w1 ⟨rfl,hb⟩
  have HB:=ad (((Below.refl w.heap.size w).alloc aC _).trans (hb.mono (by simp)))
  clear hb
  go_wp2_with fail
  all_goals
   go_ret
   refine⟨?_,HB.alloc HB.size _⟩
   have e9:r=if 2000<d then 4 else if 20000<n then 3 else 0:=by have h:=HR.out;simpa using h
   rw[e9]
   show Ending.returned (ae _)=_
   congr 2
   (repeat' split)<;>omega
end
end Go.Proofs.YtigeofkllldilaaGreatDoor
