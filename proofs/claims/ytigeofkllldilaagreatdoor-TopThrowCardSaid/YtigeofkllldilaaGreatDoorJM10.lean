import Derived.Test.YtigeofkllldilaaGreatDoorJM05
import Derived.Deep.RegionHeld3
import Derived.BigQuiet
set_option maxHeartbeats 32000000
set_option maxRecDepth 100000
set_option linter.unusedSectionVars false
open Go.Proofs.Tryz
namespace Go.Proofs.YtigeofkllldilaaGreatDoor
section
open Go.RowKit
mutual
def Tm.noVar:Tm->Bool| .mk k _ _ l=>decide (k≠1)&&Tm.noVars l
def Tm.noVars:List Tm->Bool|[]=>true|t::r=>t.noVar&&Tm.noVars r
end
theorem m9:∀(l:List Tm),Tm.noVars l=true->∀t∈l,t.noVar=true
 |x::l,h,t,ht=>by
  simp only[Tm.noVars,Bool.and_eq_true]at h
  rcases List.mem_cons.1 ht with rfl|ht
  ·exact h.1
  ·exact m9 l h.2 t ht
theorem rM {t:Tm} (h:t.noVar=true):t.k≠1/\∀x∈t.args,x.noVar=true:=by
 obtain⟨k,n,s,l⟩:=t
 simp only[Tm.noVar,Bool.and_eq_true,decide_eq_true_eq]at h
 exact⟨h.1,m9 l h.2⟩
structure pg (w:World) (B:Nat) (st:List CW) (pd:List (Tm×Nat)) (v:Value) (u:World):Prop where
 row:aS u w.heap.size 317 5 cG v st
 stk:BM w B st pd
 fr:aE w u
theorem wY (w:World) (b:Nat) (x:TV) (d:Nat) (hk:x.k≠1):
 Calls prog 238 #[ah b,aU x,ae d] w fun e w'=>e=am/\aE w w':=by
 rw[aN]
 go_enter func238,ntmps238
 go_wp2_with fail
 go_end0
 exact⟨rfl,aB⟩
theorem wC (w:World) (b B:Nat) (x:TV) (t:Tm) (hx:aO w B x t) (hB:B<=w.heap.size) (hnv:t.noVar=true) (hsz:t.size<=100000000):
 Calls prog 134 #[aU x,.func (Fn.func 238) #[ah b] #[]] w fun e w'=>e=am/\aE w w':=by
 obtain⟨i,z,hi,hz,hsi,hby,hzs⟩:=uO
 have hI:pg w B [(x,1)] [(t,1)] (al (w.heap.size+1) 1 1) ((w.alloc (.cells (aJ x).toArray 27)).alloc (.cells (cG (x,1)).toArray 317)):=by
  refine⟨?_,.snoc [] [] x t 1 .nil hx,((Below.refl _ w).alloc aC _).alloc (by simp) _⟩
  ·have:=aS.one (B:=w.heap.size) (e:=317) eo (w.alloc (.cells (aJ x).toArray 27)) (x,1) (by simp)
   simpa using this
 have HI:=ad hI
 have HNV:=ad hnv
 clear hI hx hnv
 rw[aN]
 go_enter func134,ntmps134
 go_wp2_with fail
 change Code.wp _ _ _ _ ((w.alloc (.cells (aJ x).toArray 27)).alloc (.cells (cG (x,1)).toArray 317))
 go_loopg [4] t.size (fun g v u=>∃st pd,pg w B st pd v u/\Hid (bN pd=g/\bN pd<=100000000/\∀p∈pd,p.1.noVar=true/\p.2+p.1.size<=100000001))
 case atStart=>exact⟨_,_,HI.out,ad ⟨by simp[bN],by simp[bN];omega,fun p hp=>by simp at hp;subst hp;exact⟨HNV.out,by simp only;omega⟩⟩⟩
 case round=>
  obtain⟨st,pd,hR,HH⟩:=hrel
  clear HI
  obtain _|⟨⟨t1,d⟩,pd⟩:=pd
  ·have hl:=hR.stk.len
   obtain rfl:st=[]:=List.eq_nil_of_length_eq_zero hl
   obtain⟨A1,c1,rfl⟩:=hR.row.shape
   have HR:=ad hR
   clear hR hl
   go_wp2_with fail
   go_end0
   exact⟨rfl,HR.fr⟩
  ·obtain⟨st,x1,rfl,hs1,ht1⟩:=hR.stk.pop
   obtain⟨tk,tn,ts,tl,tm,targ⟩:=ht1.open
   obtain⟨g,cap,rfl,hg0,hg1,hcap,hcs⟩:=hR.row.cells eo (by simp)
   obtain⟨hd1,hd2⟩:t1.noVar=true/\d+t1.size<=100000001:=HH.2.2 _ (List.mem_cons_self ..)
   obtain⟨hnk,hna⟩:=rM hd1
   rw[tk]at hnk
   have HNA:=ad hna
   have hsz1:bN ((t1,d)::pd)=t1.size+bN pd:=rfl
   have hts:t1.args.length+1<=t1.size:=i8 t1
   have hb9:=HH.2.1
   have hps:=bL t1
   have hll:x1.len<=100000000:=by omega
   have hst:st.length<=100000000:=by
    have h1:=hs1.len
    have h2:=fH pd
    omega
   have e0:=(hcs st.length (x1,d) (by simp) 0 _ rfl).1
   have e1:=(hcs st.length (x1,d) (by simp) 1 _ rfl).1
   have e2:=(hcs st.length (x1,d) (by simp) 2 _ rfl).1
   have e3:=(hcs st.length (x1,d) (by simp) 3 _ rfl).1
   have e4:=(hcs st.length (x1,d) (by simp) 4 _ rfl).1
   simp only[Nat.add_zero]at e0
   have hrow:=hR.row
   rw[List.length_append,List.length_cons,List.length_nil]at hrow hcap⊢
   have hfront:=aS.front eo hrow
   have hwr:w.heap.size<=wr.heap.size:=hR.fr.size
   have hF1:aE w (wr.alloc (.cells (cG (x1,d)).toArray 317)):=hR.fr.alloc hwr _
   have hbx:(wr.alloc (.cells (cG (x1,d)).toArray 317)).heap[wr.heap.size]?=some (.cells (cG (x1,d)).toArray 317 (0,0)):=heap_alloc_new wr _
   have hR1:=hfront.alloc (.cells (cG (x1,d)).toArray 317)
   obtain⟨w2,hw2⟩:∃w2,w2=wr.alloc (.cells (cG (x1,d)).toArray 317):=⟨_,rfl⟩
   obtain⟨bx,hbxe⟩:∃bx,bx=wr.heap.size:=⟨_,rfl⟩
   rw[<-hw2]at hF1 hbx hR1
   rw[<-hbxe]at hbx
   have hrl:st.length<st.length+1:=Nat.lt_succ_self _
   have HT1:=ad ht1
   have HARG:=ad targ
   have HS1:=ad hs1
   have HF1:=ad hF1
   have HBX:=ad hbx
   have HR1:=ad hR1
   have HTL:=ad tl
   have hcN:(st.length:Int)+1<=(cap:Int):=by omega
   have hg9:g<bx:=by omega
   have hs9:st.length<=cap:=by omega
   clear hR ht1 tk tn ts tl targ hcs hs1 hrow hfront hF1 hbx hR1 hna hd1
   go_wp2_with fail
   change Calls _ _ _ (wr.alloc (.cells (cG (x1,d)).toArray 317)) _
   rw[<-hw2,<-hbxe]
   refine(wY w2 b x1 d hnk).mono ?_
   rintro e w3 ⟨rfl,hf3⟩
   have hbx2:=(ap HBX.out).1
   have hb3:w3.heap[bx]?=some (.cells (cG (x1,d)).toArray 317 (0,0)):=(hf3.block bx hbx2).trans HBX.out
   have hI3:pg w B st pd (al g st.length cap) w3:=
    ⟨HR1.later hf3,HS1.out,HF1.trans (hf3.mono HF1.size)⟩
   have HI3:=ad hI3
   have HB3:=ad hb3
   have d3:w3.cell? (ak bx 3)=some (.slice x1.A x1.len x1.cap):=by rw[cell_of_row w3 bx 3 _ _ (0,0) hb3];rfl
   clear hf3 hb3 hI3 HR1 HF1 hw2 hbxe e0 e1 e2 e3 e4 hg1 hwr hbx2 HBX
   go_wp2_with fail
   go_loopw [4,6] (fun v i u=>∃a st',a<=x1.len/\i=ae ((a:Int)-1)/\Hid (pg w B st' (da (d+1) (t1.args.drop a)++pd) v u/\u.heap[bx]?=some (.cells (cG (x1,d)).toArray 317 (0,0))/\v.ownBlock≠some bx)) (fun _ i _=>(intOf i+1).toNat)
   case atStart=>
    refine⟨x1.len,st,aC,rfl,ad ⟨?_,HB3.out,?_⟩⟩
    ·have e9:t1.args.drop x1.len=[]:=by rw[<-HTL.out,List.drop_length]
     rw[e9]
     exact HI3.out
    ·simp[Value.ownBlock];omega
   case round=>
    obtain⟨a,st',ha,rfl,HR⟩:=hrel
    clear d3
    have d3:wr.cell? (ak bx 3)=some (.slice x1.A x1.len x1.cap):=by rw[cell_of_row wr bx 3 _ _ (0,0) HR.2.1];rfl
    have d4:wr.cell? (ak bx 4)=some (ae d):=by rw[cell_of_row wr bx 4 _ _ (0,0) HR.2.1];rfl
    obtain _|a:=a
    ·have HF:Hid (pg w B st' (da (d+1) t1.args++pd) _ wr):=ad HR.1
     go_wp2_with fail
     have hh:=HH.out
     go_roundg (bN (da (d+1) t1.args++pd))
     case measure=>
      rw[dl,<-hh.1]
      show Tm.sizes t1.args+bN pd<t1.size+bN pd
      rw[bE t1]
      omega
     case rel=>
      refine⟨_,_,HF.out,ad ⟨rfl,?_,?_⟩⟩
      ·rw[dl]
       have h1:=bE t1
       omega
      ·intro p hp
       rcases List.mem_append.1 hp with hp|hp
       ·obtain⟨t',ht',rfl⟩:=List.mem_map.1 hp
        have h1:=dD t1.args t' ht'
        have h2:=bE t1
        exact⟨HNA.out t' ht',by simp only;omega⟩
       ·exact hh.2.2 p (List.mem_cons_of_mem _ hp)
    ·have hla:a<t1.args.length:=by rw[HTL.out];omega
     obtain⟨y,b9,off9,hA9,hb9',ht9,hc9⟩:=HARG.out a _ (au hla)
     have hdrop:t1.args.drop a=t1.args[a]::t1.args.drop (a+1):=List.drop_eq_getElem_cons hla
     generalize t1.args[a]=ty at ht9 hdrop
     have hbw:=HR.1.fr
     have hc9':∀j u,(aJ y)[j]?=some u->wr.cell? (ak b9 (off9+a*4+j))=some u:=fun j u hu=>
      (hbw.cell (p:=(ak b9 (off9+a*4+j))) (by simp only;omega)).trans (hc9 j u hu)
     have f0:=hc9' 0 _ rfl
     have f1:=hc9' 1 _ rfl
     have f2:=hc9' 2 _ rfl
     have f3:=hc9' 3 _ rfl
     simp only[Nat.add_zero]at f0
     have hlen:=HR.1.stk.len
     have hst9:st'.length<=100000000:=by
      have h1:=fH (da (d+1) (t1.args.drop (a+1))++pd)
      rw[dl]at h1
      have h2:=jL (a+1) t1.args
      have h3:=bE t1
      have h4:=HH.2.1
      have h5:bN ((t1,d)::pd)=t1.size+bN pd:=rfl
      omega
     have hwr9:=hbw.size
     have hblk:=heap_alloc_new wr (.cells (cG (y,d+1)).toArray 317)
     obtain⟨g9,cap9,w9,hr9,hR9,hg9',ho9⟩:=aS.push (P:=prog) 318 underlying318 hi hz hsi hby hzs (by decide) eo oz
      (w:=(wr.alloc (.cells (cG (y,d+1)).toArray 317)).drew) (HR.1.row.later (aB.drew)) (y,d+1) wr.heap.size 1
      (fun j u hu=>bV wr _ _ j u (by simpa using hu)) (by unfold maxLen;omega) (by omega) (by simp;omega)
     obtain⟨v9,hv9⟩:∃v9,v9=al g9 (st'.length+1) cap9:=⟨_,rfl⟩
     rw[<-hv9]at hr9 hR9
     have hr9:(Builtin.append_ #[318,318] 318 #[_,al wr.heap.size 1 1]).run prog (wr.alloc (.cells #[ae y.k,ae y.n,af y.s,.slice y.A y.len y.cap,ae ((d:Int)+1)] 317)).drew=.ok v9 w9:=hr9
     have hbx3:=(ap HR.2.1).1
     have hI9:pg w B (st'++[(y,d+1)]) (da (d+1) (t1.args.drop a)++pd) v9 w9:=by
      refine⟨hR9,?_,?_⟩
      ·rw[hdrop]
       exact .snoc _ _ y ty (d+1) HR.1.stk ht9
      ·exact((Fr.of_below (fun k=>w.heap.size<=k) (HR.1.fr.alloc hwr9 _).drew).grown hg9' (fun k e=>.inl (HR.1.row.lt k e).1)).below aC (fun k hk=>by omega)
     have hbx9:w9.heap[bx]?=some (.cells (cG (x1,d)).toArray 317 (0,0)):=by
      rw[hg9'.block bx (by simp;omega) (fun e=>HR.2.2 e.symm)]
      exact(aw _ _ _ hbx3).trans HR.2.1
     have hob9:v9.ownBlock≠some bx:=by
      rw[hv9]
      intro e
      have e':g9=bx:=by simpa[Value.ownBlock]using e
      rcases ho9 with h|h
      ·exact HR.2.2 (by rw[h,e'])
      ·simp at h
       omega
     have HX9:=ad (aD hI9 (aD hbx9 hob9))
     have hd9:(d:Int)+1<=200000000:=by omega
     have hwd:IntKind.i64.wrap ((d:Int)+1)=(d:Int)+1:=IntWalk.i64_in _ (by omega)
     have ha9:(a:Int)<(x1.len:Int):=by omega
     have hl9:wr.heap.size≠bx:=by omega
     have hbl9:bx<wr.heap.size:=hbx3
     have hb99:b9<wr.heap.size:=by omega
     rw[show(((a+1:Nat):Int)-1)=(a:Int)by omega]
     clear hI9 hbx9 hob9 hg9' ho9 hblk hR9 hv9 hc9 hc9' hdrop ht9 hbw hlen
     obtain⟨xk,xn,xs,xA,xl,xc⟩:=x1
     simp only at hA9 d3 d4 ha9 ha
     subst hA9
     go_wp2_with fail
     go_region_law (first|(refine ks rfl (.tmp 39) (.tmp 50) 318 rfl (by rfl) (by rfl) hr9 ?_))
     all_goals
      go_wp2_with fail
      go_roundw
      case rel=>exact⟨a,_,by omega,rfl,HX9⟩
      case measure=>simp[intOf]
theorem oK (w:World) (x:TV) (t:Tm) (hx:aO w w.heap.size x t) (hnv:t.noVar=true) (hsz:t.size<=10000000):
 Calls prog 147 #[aU x] w fun e w'=>e=.returned aj/\aE w w':=by
 have hmm:=@run_makeMap prog
 have HX:=ad hx
 have HNV:=ad hnv
 clear hx hnv
 rw[aN]
 go_enter func147,ntmps147
 go_wp2_with fail
 generalize hW:World.alloc (World.alloc (World.alloc w _) _) _=W
 have hbW:aE w W:=by rw[<-hW];exact(((Below.refl _ w).alloc aC _).alloc (by simp) _).alloc (by simp;omega) _
 have hcW:W.cell? (ak (w.heap.size+1+1) 0)=some aj:=by
  clear hbW
  subst hW
  go_simp
 have hsW:W.heap.size=w.heap.size+3:=by rw[<-hW];simp
 refine(wC W (w.heap.size+1+1) W.heap.size x t (HX.later hbW) aC HNV.out (by omega)).mono ?_
 rintro e w2 ⟨rfl,hb2⟩
 have hc2:=(hb2.cell (p:=(ak (w.heap.size+1+1) 0)) (by simp only;omega)).trans hcW
 have HB:=ad (hbW.trans (hb2.mono hbW.size))
 clear hW hbW hcW hb2 hmm hsW
 go_wp2_with fail
 go_ret
 exact⟨rfl,HB.out⟩
def dX (k n:Int) (s:List UInt8):TV:=⟨k,n,s,none,0,0⟩
theorem ci {w1:World} {b:Nat} {a0 a1 a2 a3:Value} {t:TypeId} (h:w1.heap[b]?=some (.cells #[a0,a1,a2,a3] t (0,0))):
 w1.cell? (ak b 0)=some a0/\w1.cell? (ak b 1)=some a1/\w1.cell? (ak b 2)=some a2/\w1.cell? (ak b 3)=some a3/\(∀o,w1.frozen? ⟨b,o,none⟩=false):=
 ⟨by rw[cell_of_row w1 b 0 _ t (0,0) h];rfl,by rw[cell_of_row w1 b 1 _ t (0,0) h];rfl,by rw[cell_of_row w1 b 2 _ t (0,0) h];rfl,by rw[cell_of_row w1 b 3 _ t (0,0) h];rfl,fun o=>by simp[World.frozen?,h]⟩
theorem lh (w:World) (k n:Int) (s:List UInt8) (A:Option Addr) (c:Nat) (f:Value) (hk:k≠1):
 Calls prog 149 #[aU ⟨k,n,s,A,0,c⟩,f] w fun e w'=>e=.returned (aU (dX k n s))/\aE w w':=by
 unfold dX
 rw[aN,aN]
 simp only
 have hkb:(k==1)=false:=by simpa using hk
 clear hk
 go_enter func149,ntmps149
 go_wp2_with fail
 refine bodyPost_ret (v:=.agg #[ae k,ae n,af s,aj]) (by simp[results,results149,go_sem]) rfl ⟨rfl,?_⟩
 exact aB.alloc (by simp) _
theorem Ak (u:World):(Instr.makeSlice 25 (ae 1) (ae 1)).run prog u=.ok (al u.heap.size 1 1) (u.alloc (.cells #[ae 0,ae 0,ai,aj] 27)):=by
 kernel_rfl
theorem qS (w:World) (k n:Int) (s:List UInt8) (b off c:Nat) (k2 n2:Int) (s2:List UInt8) (A2:Option Addr) (c2:Nat) (F:FuncId) (rc cs:Array Value) (hk:k≠1) (hk2:k2≠1)
 (e0:w.cell? (ak b off)=some (ae k2)) (e1:w.cell? (ak b (off+1))=some (ae n2)) (e2:w.cell? (ak b (off+2))=some (af s2)) (e3:w.cell? (ak b (off+3))=some (.slice A2 0 c2)):
 Calls prog 149 #[aU ⟨k,n,s,some (ak b off),1,c⟩,.func (.func F) rc cs] w fun e w'=>∃g,e=.returned (aU ⟨k,n,s,some (ak g 0),1,1⟩)/\w.heap.size<=g∧
  w'.heap[g]?=some (.cells (aJ (dX k2 n2 s2)).toArray 27 (0,0))/\aE w w':=by
 rw[aN]
 simp only
 have hkb:(k==1)=false:=by simpa using hk
 have hbl:=World.block_lt_of_cell? w _ e0
 simp only at hbl
 have HC:Hid (∀W:World,Calls prog 149 #[aU ⟨k2,n2,s2,A2,0,c2⟩,.func (.func F) rc cs] W fun e w'=>e=.returned (aU (dX k2 n2 s2))/\aE W w'):=ad fun W=>lh W k2 n2 s2 A2 c2 _ hk2
 have hmk:=Ak
 clear hk hk2
 go_enter func149,ntmps149
 go_wp2_with fail
 clear hmk
 generalize hW0:World.alloc (World.alloc (World.alloc w _) _) _=W0
 have hb0:aE w W0:=by rw[<-hW0];exact(((Below.refl _ w).alloc aC _).alloc (by simp) _).alloc (by simp;omega) _
 have hs0:W0.heap.size=w.heap.size+3:=by rw[<-hW0];simp
 have hx0:W0.heap[w.heap.size]?=some (.cells #[ae k,ae n,af s,.slice (some (ak b off)) 1 c] 27 (0,0)):=by
  rw[<-hW0,aw _ _ _ (by simp;omega),aw _ _ _ (by simp)]
  exact heap_alloc_new w _
 have hx1:W0.heap[w.heap.size+1]?=some (.cells #[ae 0,ae 0,ai,aj] 27 (0,0)):=by
  rw[<-hW0,aw _ _ _ (by simp)]
  have:=heap_alloc_new (w.alloc (.cells #[ae k,ae n,af s,.slice (some (ak b off)) 1 c] 27)) (.cells #[ae 0,ae 0,ai,aj] 27)
  simpa using this
 have hx2:W0.heap[w.heap.size+1+1]?=some (.cells #[ae 0,ae 0,ai,aj] 27 (0,0)):=by
  rw[<-hW0]
  have:=heap_alloc_new ((w.alloc (.cells #[ae k,ae n,af s,.slice (some (ak b off)) 1 c] 27)).alloc (.cells #[ae 0,ae 0,ai,aj] 27)) (.cells #[ae 0,ae 0,ai,aj] 27)
  simpa using this
 have HB0:=ad hb0
 have HX0:=ad hx0
 have HX1:=ad hx1
 have HX2:=ad hx2
 clear hW0 hb0 hx0 hx1 hx2
 go_loopw [29] (fun i u=>(i=ae 0/\u=W0)\/(i=ae 1/\Hid (Fr (fun k=>k=w.heap.size+1+1) W0 u/\u.heap[w.heap.size+1+1]?=some (.cells (aJ (dX k2 n2 s2)).toArray 27 (0,0))))) (fun i _=>1-(intOf i).toNat)
 case atStart=>exact .inl ⟨rfl,rfl⟩
 case round=>
  rcases hrel with⟨rfl,rfl⟩|⟨rfl,HD⟩
  ·rw[<-HB0.cell (p:=(ak b off)) hbl]at e0
   rw[<-HB0.cell (p:=(ak b (off+1))) hbl]at e1
   rw[<-HB0.cell (p:=(ak b (off+2))) hbl]at e2
   rw[<-HB0.cell (p:=(ak b (off+3))) hbl]at e3
   go_wp2_with fail
   refine(HC.out _).mono ?_
   rintro e w4 ⟨rfl,hb4⟩
   have hF4:Fr (fun k=>k=w.heap.size+1+1) wr w4:=((Fr.refl _ wr).alloc _).step hb4
   have hz4:=(hF4.size)
   have hx4:w4.heap[w.heap.size+1+1]?=some (.cells #[ae 0,ae 0,ai,aj] 27 (0,0)):=by
    rw[hb4.block _ (by simp;omega),aw _ _ _ (by omega)]
    exact HX2.out
   obtain⟨d0,d1,d2,d3,df⟩:=ci hx4
   have HF4:=ad hF4
   have HX4:=ad hx4
   clear hb4 hF4 hx4 e0 e1 e2 e3
   unfold dX at*
   rw[aN]
   simp only
   go_wp2_with fail
   go_roundw
   case rel=>
    refine .inr ⟨rfl,ad ⟨?_,?_⟩⟩
    ·exact(((HF4.setCell (p:=(ak (w.heap.size+1+1) 0)) (.inl rfl) _).setCell (p:=(ak (w.heap.size+1+1) 1)) (.inl rfl) _).setCell (p:=(ak (w.heap.size+1+1) 2)) (.inl rfl) _).setCell (p:=(ak (w.heap.size+1+1) 3)) (.inl rfl) _
    ·exact aK (aK (aK (aK HX4.out _) _) _) _
   case measure=>simp[intOf]
  ·obtain⟨hF,hG⟩:=HD.out
   have hx0:=(hF.block w.heap.size (by omega) (by omega)).trans HX0.out
   have hx1:=(hF.block (w.heap.size+1) (by omega) (by omega)).trans HX1.out
   obtain⟨c0,c1,c2,c3,cf⟩:=ci hx0
   obtain⟨d0,d1,d2,d3,df⟩:=ci hx1
   clear hF hG hx0 hx1 e0 e1 e2 e3
   go_wp2_with fail
   refine bodyPost_ret (v:=.agg #[ae k,ae n,af s,al (w.heap.size+1+1) 1 1]) (by simp[results,results149,go_sem,d0,d1,d2,d3]) rfl ⟨w.heap.size+1+1,rfl,by omega,?_,?_⟩
   ·repeat (rw[Deep.blk_setCell_other _ _ _ _ (by first|omega|(simp only;omega))])
    exact HD.2
   ·repeat (refine Below.setCell ?_ (by simp only;omega) _)
    exact HB0.trans (HD.1.below (by omega) (fun k hk=>by omega))
theorem zd (w:World) (k n:Int) (s:List UInt8) (A:Option Addr) (c:Nat) (hk:k≠1):
 Calls prog 351 #[aU ⟨k,n,s,A,0,c⟩] w fun e w'=>e=.returned (aU (dX k n s))/\aE w w':=by
 have HC:Hid (∀(W:World) (f:Value),Calls prog 149 #[aU ⟨k,n,s,A,0,c⟩,f] W fun e w'=>e=.returned (aU (dX k n s))/\aE W w'):=ad fun W f=>lh W k n s A c f hk
 clear hk
 unfold dX at*
 rw[aN,aN]at*
 simp only at*
 go_enter func351,ntmps351
 go_wp2_with fail
 refine(HC.out _ _).mono ?_
 rintro e w2 ⟨rfl,hb2⟩
 have hx1:w2.heap[w.heap.size+1]?=some (.cells #[ae 0,ae 0,ai,aj] 27 (0,0)):=by
  rw[hb2.block _ (by simp)]
  have:=heap_alloc_new (w.alloc (.cells #[ae k,ae n,af s,.slice A 0 c] 27)) (.cells #[ae 0,ae 0,ai,aj] 27)
  simpa using this
 obtain⟨d0,d1,d2,d3,df⟩:=ci hx1
 have HB:=ad ((((Below.refl w.heap.size w).alloc aC _).alloc (by simp) _).trans (hb2.mono (by simp;omega)))
 clear hb2 hx1
 go_wp2_with fail
 refine bodyPost_ret (v:=.agg #[ae k,ae n,af s,aj]) (by simp[results,results351,go_sem,d0,d1,d2,d3]) rfl ⟨rfl,?_⟩
 repeat (refine Below.setCell ?_ (by simp only;omega) _)
 exact HB.out
theorem B6 (w:World) (k n:Int) (s:List UInt8) (b off c:Nat) (k2 n2:Int) (s2:List UInt8) (A2:Option Addr) (c2:Nat) (hk:k≠1) (hk2:k2≠1)
 (e0:w.cell? (ak b off)=some (ae k2)) (e1:w.cell? (ak b (off+1))=some (ae n2)) (e2:w.cell? (ak b (off+2))=some (af s2)) (e3:w.cell? (ak b (off+3))=some (.slice A2 0 c2)):
 Calls prog 351 #[aU ⟨k,n,s,some (ak b off),1,c⟩] w fun e w'=>∃g,e=.returned (aU ⟨k,n,s,some (ak g 0),1,1⟩)/\w.heap.size<=g∧
  w'.heap[g]?=some (.cells (aJ (dX k2 n2 s2)).toArray 27 (0,0))/\aE w w':=by
 have hbl:=World.block_lt_of_cell? w _ e0
 simp only at hbl
 have hw:aE w ((w.alloc (.cells #[ae k,ae n,af s,.slice (some (ak b off)) 1 c] 27)).alloc (.cells #[ae 0,ae 0,ai,aj] 27)):=((Below.refl w.heap.size w).alloc aC _).alloc (by simp) _
 have HC:=ad (qS _ k n s b off c k2 n2 s2 A2 c2 382 #[] #[] hk hk2 ((hw.cell (p:=(ak b off)) hbl).trans e0) ((hw.cell (p:=(ak b (off+1))) hbl).trans e1) ((hw.cell (p:=(ak b (off+2))) hbl).trans e2) ((hw.cell (p:=(ak b (off+3))) hbl).trans e3))
 have HW:=ad hw
 clear hk hk2 e0 e1 e2 e3 hw
 rw[aN]at*
 simp only at*
 go_enter func351,ntmps351
 go_wp2_with fail
 refine HC.mono ?_
 rintro e w2 ⟨g,rfl,hg,hgc,hb2⟩
 have hx1:w2.heap[w.heap.size+1]?=some (.cells #[ae 0,ae 0,ai,aj] 27 (0,0)):=by
  rw[hb2.block _ (by simp)]
  have:=heap_alloc_new (w.alloc (.cells #[ae k,ae n,af s,.slice (some (ak b off)) 1 c] 27)) (.cells #[ae 0,ae 0,ai,aj] 27)
  simpa using this
 obtain⟨d0,d1,d2,d3,df⟩:=ci hx1
 have HB:=ad (HW.trans (hb2.mono (by simp;omega)))
 have HG:=ad hgc
 have hg9:w.heap.size+2<=g:=by simpa using hg
 clear hb2 hx1 hgc hg
 rw[aN]
 simp only
 go_wp2_with fail
 refine bodyPost_ret (v:=.agg #[ae k,ae n,af s,al g 1 1]) (by simp[results,results351,go_sem,d0,d1,d2,d3]) rfl ⟨g,rfl,by omega,?_,?_⟩
 ·repeat (rw[Deep.blk_setCell_other _ _ _ _ (by first|omega|(simp only;omega))])
  exact HG.out
 ·repeat (refine Below.setCell ?_ (by simp only;omega) _)
  exact HB.out
structure cX (w:World) (x:TV) (arg:Option (Int×Int×List UInt8)):Prop where
 nvar:x.k≠1
 str:x.s.length<=maxLen
 rest:match arg with
  |none=>x.len=0
  |some a=>x.len=1/\a.1≠1/\a.2.2.length<=maxLen/\∃b off A2 c2,x.A=some (ak b off)/\b<w.heap.size/\∀j u,(aJ ⟨a.1,a.2.1,a.2.2,A2,0,c2⟩)[j]?=some u->w.cell? (ak b (off+j))=some u
theorem cX.later {w w':World} {x:TV} {arg:Option (Int×Int×List UInt8)} (h:cX w x arg) (hb:aE w w'):cX w' x arg:=by
 refine⟨h.nvar,h.str,?_⟩
 have hr:=h.rest
 cases arg with
 |none=>exact hr
 |some a=>
  obtain⟨h1,h2,h3,b,off,A2,c2,h4,h5,h6⟩:=hr
  exact⟨h1,h2,h3,b,off,A2,c2,h4,Nat.lt_of_lt_of_le h5 hb.size,fun j u hu=>(hb.cell (p:=(ak b (off+j))) h5).trans (h6 j u hu)⟩
def iu (x:TV) (arg:Option (Int×Int×List UInt8)):Tm:=.mk x.k x.n x.s (match arg with|none=>[]|some a=>[.mk a.1 a.2.1 a.2.2 []])
theorem cX.tm {w:World} {x:TV} {arg:Option (Int×Int×List UInt8)} (h:cX w x arg):aO w w.heap.size x (iu x arg):=by
 have hr:=h.rest
 cases arg with
 |none=>
  obtain⟨k,n,s,A,l,c⟩:=x
  simp only at hr
  subst hr
  exact aO.leaf w _ k n s A c h.str
 |some a=>
  obtain⟨h1,h2,h3,b,off,A2,c2,h4,h5,h6⟩:=hr
  refine .mk x _ [⟨a.1,a.2.1,a.2.2,A2,0,c2⟩] (by rw[h1];rfl) (by rw[h1];rfl) h.str (fun i y hy=>?_) (fun i y t hy ht=>?_)
  ·obtain⟨rfl,rfl⟩:i=0/\y=⟨a.1,a.2.1,a.2.2,A2,0,c2⟩:=by
    rcases Nat.eq_zero_or_pos i with rfl|h0
    ·simp at hy;exact⟨rfl,hy.symm⟩
    ·rw[List.getElem?_eq_none (by simp;omega)]at hy;cases hy
   exact⟨b,off,h4,h5,fun j u hu=>by rw[Nat.zero_mul,Nat.add_zero];exact h6 j u hu⟩
  ·rcases Nat.eq_zero_or_pos i with rfl|h0
   ·simp at hy ht
    subst hy ht
    exact aO.leaf w _ _ _ _ _ _ h3
   ·rw[List.getElem?_eq_none (by simp;omega)]at hy;cases hy
theorem cX.noVar {w:World} {x:TV} {arg:Option (Int×Int×List UInt8)} (h:cX w x arg):(iu x arg).noVar=true/\(iu x arg).size<=2/\(iu x arg).deep<=2:=by
 have hr:=h.rest
 have h1:=h.nvar
 cases arg with
 |none=>simp[iu,Tm.noVar,Tm.noVars,Tm.size,Tm.sizes,Tm.deep,Tm.deeps,h1]
 |some a=>simp[iu,Tm.noVar,Tm.noVars,Tm.size,Tm.sizes,Tm.deep,Tm.deeps,h1,hr.2.1]
def dH (B:Nat) (w:World) (x x':TV) (arg:Option (Int×Int×List UInt8)):Prop:=
 match arg with
 |none=>x'=dX x.k x.n x.s
 |some a=>∃g,x'=⟨x.k,x.n,x.s,some (ak g 0),1,1⟩/\B<=g/\w.heap[g]?=some (.cells (aJ (dX a.1 a.2.1 a.2.2)).toArray 27 (0,0))
theorem dH.keep {B B':Nat} {w w':World} {x x':TV} {arg:Option (Int×Int×List UInt8)} (h:dH B w x x' arg) (hB:B'<=B) (hb:∀k cs,w.heap[k]?=some (.cells cs 27 (0,0))->B<=k->w'.heap[k]?=w.heap[k]?):dH B' w' x x' arg:=by
 cases arg with
 |none=>exact h
 |some a=>
  obtain⟨g,h1,h2,h3⟩:=h
  exact⟨g,h1,by omega,(hb g _ h3 h2).trans h3⟩
theorem dH.later {B B':Nat} {w w':World} {x x':TV} {arg:Option (Int×Int×List UInt8)} (h:dH B w x x' arg) (hB:B'<=B) (hb:aE w w'):dH B' w' x x' arg:=
 h.keep hB fun k _ hk _=>hb.block k (ap hk).1
theorem rl (w:World) (x:TV) (arg:Option (Int×Int×List UInt8)) (h:cX w x arg) (F:FuncId) (rc cs:Array Value):
 Calls prog 149 #[aU x,.func (.func F) rc cs] w fun e w'=>∃x',e=.returned (aU x')/\dH w.heap.size w' x x' arg/\aE w w':=by
 have hr:=h.rest
 have hk:=h.nvar
 obtain⟨k,n,s,A,l,c⟩:=x
 cases arg with
 |none=>
  simp only at hr hk
  subst hr
  refine(lh w k n s A c _ hk).mono ?_
  rintro e w' ⟨rfl,hb⟩
  exact⟨_,rfl,rfl,hb⟩
 |some a=>
  obtain⟨h1,h2,_,b,off,A2,c2,h4,_,h6⟩:=hr
  simp only at h1 h4 hk
  subst h1 h4
  refine(qS w k n s b off c a.1 a.2.1 a.2.2 A2 c2 F rc cs hk h2 (h6 0 _ rfl) (h6 1 _ rfl) (h6 2 _ rfl) (h6 3 _ rfl)).mono ?_
  rintro e w' ⟨g,rfl,hg,hc,hb⟩
  exact⟨_,rfl,⟨g,rfl,hg,hc⟩,hb⟩
theorem vk (w:World) (x:TV) (arg:Option (Int×Int×List UInt8)) (h:cX w x arg):
 Calls prog 351 #[aU x] w fun e w'=>∃x',e=.returned (aU x')/\dH w.heap.size w' x x' arg/\aE w w':=by
 have hr:=h.rest
 have hk:=h.nvar
 obtain⟨k,n,s,A,l,c⟩:=x
 cases arg with
 |none=>
  simp only at hr hk
  subst hr
  refine(zd w k n s A c hk).mono ?_
  rintro e w' ⟨rfl,hb⟩
  exact⟨_,rfl,rfl,hb⟩
 |some a=>
  obtain⟨h1,h2,_,b,off,A2,c2,h4,_,h6⟩:=hr
  simp only at h1 h4 hk
  subst h1 h4
  refine(B6 w k n s b off c a.1 a.2.1 a.2.2 A2 c2 hk h2 (h6 0 _ rfl) (h6 1 _ rfl) (h6 2 _ rfl) (h6 3 _ rfl)).mono ?_
  rintro e w' ⟨g,rfl,hg,hc,hb⟩
  exact⟨_,rfl,⟨g,rfl,hg,hc⟩,hb⟩
abbrev l7 (bx bz:Nat) (x y:TV) (u:World):Prop:=
 u.cell? (ak bx 0)=some (ae x.k)/\u.cell? (ak bx 1)=some (ae x.n)/\u.cell? (ak bx 2)=some (af x.s)/\u.cell? (ak bx 3)=some (.slice x.A x.len x.cap)∧
 u.cell? (ak bz 0)=some (ae y.k)/\u.cell? (ak bz 1)=some (ae y.n)/\u.cell? (ak bz 2)=some (af y.s)/\u.cell? (ak bz 3)=some (.slice y.A y.len y.cap)
theorem kD {bx bz:Nat} {x y:TV} {u:World} (h1:u.heap[bx]?=some (.cells (aJ x).toArray 27 (0,0))) (h2:u.heap[bz]?=some (.cells (aJ y).toArray 27 (0,0))):l7 bx bz x y u:=by
 obtain⟨a0,a1,a2,a3,_⟩:=ci h1
 obtain⟨b0,b1,b2,b3,_⟩:=ci h2
 exact⟨a0,a1,a2,a3,b0,b1,b2,b3⟩
theorem dB {bx bz:Nat} {x y:TV} {u:World} (h:l7 bx bz x y u):l7 bx bz x y u.drew:=h
theorem bQ {bx bz:Nat} {x y:TV} {u u':World} (h:l7 bx bz x y u) (hb:aE u u'):l7 bx bz x y u':=by
 obtain⟨a0,a1,a2,a3,b0,b1,b2,b3⟩:=h
 have l1:=World.block_lt_of_cell? u _ a0
 have l2:=World.block_lt_of_cell? u _ b0
 exact⟨(hb.cell (p:=(ak bx 0)) l1).trans a0,(hb.cell (p:=(ak bx 1)) l1).trans a1,(hb.cell (p:=(ak bx 2)) l1).trans a2,(hb.cell (p:=(ak bx 3)) l1).trans a3,
  (hb.cell (p:=(ak bz 0)) l2).trans b0,(hb.cell (p:=(ak bz 1)) l2).trans b1,(hb.cell (p:=(ak bz 2)) l2).trans b2,(hb.cell (p:=(ak bz 3)) l2).trans b3⟩
theorem zm {bx bz k o:Nat} {x y:TV} {u:World} (h:l7 bx bz x y u) (hp:k≠bx/\k≠bz) (v:Value):l7 bx bz x y (u.setCell (ak k o) v):=by
 obtain⟨a0,a1,a2,a3,b0,b1,b2,b3⟩:=h
 have e1:=Deep.blk_setCell_other u ⟨k,o,none⟩ v bx (fun e=>hp.1 e.symm)
 have e2:=Deep.blk_setCell_other u ⟨k,o,none⟩ v bz (fun e=>hp.2 e.symm)
 exact⟨(World.cell?_of_block (a:=⟨bx,0,none⟩) e1).trans a0,(World.cell?_of_block (a:=⟨bx,1,none⟩) e1).trans a1,(World.cell?_of_block (a:=⟨bx,2,none⟩) e1).trans a2,(World.cell?_of_block (a:=⟨bx,3,none⟩) e1).trans a3,
  (World.cell?_of_block (a:=⟨bz,0,none⟩) e2).trans b0,(World.cell?_of_block (a:=⟨bz,1,none⟩) e2).trans b1,(World.cell?_of_block (a:=⟨bz,2,none⟩) e2).trans b2,(World.cell?_of_block (a:=⟨bz,3,none⟩) e2).trans b3⟩
theorem tE (w:World) (x y:TV) (ax ay:Option (Int×Int×List UInt8)) (hx:cX w x ax) (hy:cX w y ay):
 Calls prog 76 #[aU x,aU y] w fun e w'=>∃x' y',e=.returned (.tuple #[aU x',aU y'])/\dH w.heap.size w' x x' ax/\dH w.heap.size w' y y' ay/\aE w w':=by
 have hmm:=@run_makeMap prog
 obtain⟨W0,hW0⟩:∃W0,eH w [.cells (aJ x).toArray 27,.cells (aJ y).toArray 27,.cells #[ae 0,ae 0,ai,aj] 27,.cells #[ae 0,ae 0,ai,aj] 27,
  .map #[] 0,.cells #[.map (some (w.heap.size+1+1+1+1))] 81]=W0:=⟨_,rfl⟩
 have hb0:aE w W0:=by rw[<-hW0];exact dW _ _
 have hs0:W0.heap.size=w.heap.size+6:=by rw[<-hW0,iB];rfl
 have h0:W0.heap[w.heap.size]?=some (.cells (aJ x).toArray 27 (0,0)):=by rw[<-hW0];exact cg w _ 0 _ rfl
 have h1:W0.heap[w.heap.size+1]?=some (.cells (aJ y).toArray 27 (0,0)):=by rw[<-hW0];exact cg w _ 1 _ rfl
 have h2:W0.heap[w.heap.size+1+1]?=some (.cells #[ae 0,ae 0,ai,aj] 27 (0,0)):=by rw[<-hW0];exact cg w _ 2 _ rfl
 have h3:W0.heap[w.heap.size+1+1+1]?=some (.cells #[ae 0,ae 0,ai,aj] 27 (0,0)):=by rw[<-hW0];exact cg w _ 3 _ rfl
 have HF:=ad (kD h0 h1)
 have HX:=ad (hx.later hb0)
 have HY:=ad (hy.later hb0)
 have HB0:=ad hb0
 have H2:=ad h2
 have H3:=ad h3
 have HW0:=ad hW0
 have HVX:Hid (∀u,cX u x ax->Calls prog 147 #[.agg #[ae x.k,ae x.n,af x.s,.slice x.A x.len x.cap]] u fun e w'=>e=.returned aj/\aE u w'):=
  ad fun u h=>oK u x _ h.tm h.noVar.1 (by have:=h.noVar.2.1;omega)
 have HVY:Hid (∀u,cX u y ay->Calls prog 147 #[.agg #[ae y.k,ae y.n,af y.s,.slice y.A y.len y.cap]] u fun e w'=>e=.returned aj/\aE u w'):=
  ad fun u h=>oK u y _ h.tm h.noVar.1 (by have:=h.noVar.2.1;omega)
 have HMX:Hid (∀(u:World) (F:FuncId) (rc cs:Array Value),cX u x ax->Calls prog 149 #[.agg #[ae x.k,ae x.n,af x.s,.slice x.A x.len x.cap],.func (.func F) rc cs] u fun e w'=>∃x',e=.returned (aU x')/\dH u.heap.size w' x x' ax/\aE u w'):=
  ad fun u F rc cs h=>rl u x ax h F rc cs
 have HMY:Hid (∀(u:World) (F:FuncId) (rc cs:Array Value),cX u y ay->Calls prog 149 #[.agg #[ae y.k,ae y.n,af y.s,.slice y.A y.len y.cap],.func (.func F) rc cs] u fun e w'=>∃x',e=.returned (aU x')/\dH u.heap.size w' y x' ay/\aE u w'):=
  ad fun u F rc cs h=>rl u y ay h F rc cs
 have hs6:w.heap.size+6<=W0.heap.size:=by omega
 clear hx hy hb0 h0 h1 h2 h3 hW0 hs0
 rw[aN,aN]
 go_enter func76,ntmps76
 go_wp2_with fail
 change Code.wp _ _ _ _ (eH w [.cells (aJ x).toArray 27,.cells (aJ y).toArray 27,.cells #[ae 0,ae 0,ai,aj] 27,.cells #[ae 0,ae 0,ai,aj] 27,
  .map #[] 0,.cells #[.map (some (w.heap.size+1+1+1+1))] 81])
 rw[HW0.out]
 clear hmm HW0
 go_region_held3 (fun u=>u.cell? (ak w.heap.size 0)=some (ae x.k)/\u.cell? (ak w.heap.size 1)=some (ae x.n)/\u.cell? (ak w.heap.size 2)=some (af x.s)/\u.cell? (ak w.heap.size 3)=some (.slice x.A x.len x.cap)∧
 u.cell? (ak (w.heap.size+1) 0)=some (ae y.k)/\u.cell? (ak (w.heap.size+1) 1)=some (ae y.n)/\u.cell? (ak (w.heap.size+1) 2)=some (af y.s)/\u.cell? (ak (w.heap.size+1) 3)=some (.slice y.A y.len y.cap))
  (first|(with_reducible exact dB HF.out)|(with_reducible exact HF.out)|(with_reducible exact bQ (dB HF.out) hb1)|(with_reducible exact bQ (bQ (dB HF.out) hb1) hb2))
  (first|(go_at_call 147;with_reducible refine(HVX.out _ (HX.out.later aA.drew)).mono ?_;rintro e u1 ⟨rfl,hb1⟩)|(go_at_call 147;with_reducible refine(HVY.out u1 ((HY.out.later aA.drew).later hb1)).mono ?_;rintro e u2 ⟨rfl,hb2⟩))
 have HB2:=ad (((Below.refl W0.heap.size W0).drew).trans (hb1.trans (hb2.mono hb1.size)))
 obtain⟨v2,rfl⟩:∃v2:World,v2=u2:=⟨_,rfl⟩
 clear hb1 hb2
 go_wp2_with fail
 go_loopw [19] (fun i u=>i=ae 0/\u=v2) (fun _ _=>0)
 case atStart=>exact⟨rfl,rfl⟩
 case round=>
  obtain⟨rfl,rfl⟩:=hrel
  have HF2:=ad (bQ HF.out HB2.out)
  have HX2:=ad (HX.later HB2.out)
  have HY2:=ad (HY.later HB2.out)
  have H22:=ad ((HB2.block _ (by omega)).trans H2.out)
  have H32:=ad ((HB2.block _ (by omega)).trans H3.out)
  have hz2:=HB2.size
  clear HF HX HY HVX HVY H2 H3
  go_wp2_with fail
  go_region_held3 (fun u=>u.cell? (ak w.heap.size 0)=some (ae x.k)/\u.cell? (ak w.heap.size 1)=some (ae x.n)/\u.cell? (ak w.heap.size 2)=some (af x.s)/\u.cell? (ak w.heap.size 3)=some (.slice x.A x.len x.cap)∧
   u.cell? (ak (w.heap.size+1) 0)=some (ae y.k)/\u.cell? (ak (w.heap.size+1) 1)=some (ae y.n)/\u.cell? (ak (w.heap.size+1) 2)=some (af y.s)/\u.cell? (ak (w.heap.size+1) 3)=some (.slice y.A y.len y.cap))
   (((repeat (with_reducible refine zm ?_ (by omega) _));first|(with_reducible exact dB HF2.out)|(with_reducible exact HF2.out)|(with_reducible exact bQ (dB HF2.out) hb3)|(with_reducible exact bQ (bQ (dB HF2.out) hb3) hb4)|(with_reducible assumption)))
   (first|(go_at_call 149;with_reducible refine(HMX.out _ _ _ _ (HX2.out.later aA.drew)).mono ?_;rintro e u3 ⟨x',rfl,hcx,hb3⟩)|(go_at_call 149;with_reducible refine(HMY.out u3 _ _ _ ((HY2.out.later aA.drew).later hb3)).mono ?_;rintro e u4 ⟨y',rfl,hcy,hb4⟩;obtain⟨r0,r1,r2,r3,rf⟩:=ci ((hb4.block _ (by have:=hb3.size;simp at this;omega)).trans ((hb3.block _ (by simp;omega)).trans H22.out));obtain⟨s0,s1,s2,s3,sf⟩:=ci ((hb4.block _ (by have:=hb3.size;simp at this;omega)).trans ((hb3.block _ (by simp;omega)).trans H32.out));rw[aN,aN]))
  all_goals
   have hbz:=hb3.size
   have hby:=hb4.size
   have hcx4:=hcx.later aC hb4
   have hw2:w.heap.size<=wr.heap.size:=by omega
   have hbA:aE w u4:=HB0.trans ((HB2.trans (((Below.refl wr.heap.size wr).drew.trans (hb3.trans (hb4.mono hb3.size))).mono hz2)).mono HB0.size)
   have HCX:=ad hcx4
   have HCY:=ad hcy
   have HBA:=ad hbA
   have hy9:wr.heap.size<=u3.heap.size:=by simpa using hbz
   clear hcx hcy hb3 hb4 hcx4 hbA hbz hby
   go_wp2_with fail
   refine bodyPost_ret (v:=.tuple #[aU x',aU y']) (by simp[results,results76,go_sem,r0,r1,r2,r3,s0,s1,s2,s3,aU]) rfl ⟨x',y',rfl,?_,?_,?_⟩
   ·exact HCX.keep (by simpa using hw2) (fun k _ _ hk=>by
     have hk':wr.heap.size<=k:=by simpa using hk
     repeat (rw[Deep.blk_setCell_other _ _ _ _ (by first|omega|(simp only;omega))]))
   ·exact HCY.keep (by omega) (fun k _ _ hk=>by
     repeat (rw[Deep.blk_setCell_other _ _ _ _ (by first|omega|(simp only;omega))]))
   ·repeat (refine Below.setCell ?_ (by simp only;omega) _)
    exact HBA.out
end
end Go.Proofs.YtigeofkllldilaaGreatDoor
