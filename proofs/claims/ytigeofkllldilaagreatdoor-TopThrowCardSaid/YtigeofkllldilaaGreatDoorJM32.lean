import Derived.Test.YtigeofkllldilaaGreatDoorJM26
set_option maxHeartbeats 32000000
set_option maxRecDepth 100000
set_option linter.unusedSectionVars false
open Go.Proofs.Tryz
namespace Go.Proofs.YtigeofkllldilaaGreatDoor
section
open Go.RowKit Go.Maps
theorem fg.up {w:World} {B B' n:Nat} {A:Option Addr} {l:List dq} (h:fg w B A n l) (hB:B<=B'):fg w B' A n l:=
 ⟨h.len,fun i t ht=>by
  obtain⟨b,off,e1,e2,r⟩:=h.at' i t ht
  exact⟨b,off,e1,Nat.lt_of_lt_of_le e2 hB,r⟩⟩
def rdV (A:Option Addr) (n c bt bb mb:Nat):jr:=⟨A,n,c,ah bt,.map (some bb),aj,⟨0,0,[],none,0,0⟩,.map (some mb),aj⟩
def AJ (k:Nat):cI:=⟨k,[],0,false,.mk 0 0 [] [],0,[],[],0⟩
theorem FR (x:TV):aU x=.agg #[ae x.k,ae x.n,af x.s,.slice x.A x.len x.cap]:=rfl
def jd (w w':World) (c:pN×Int) (e:Ending):Prop:=
 aE w w'/\∃x nv B,e=.returned (.tuple #[BO x nv c.1.line c.1.next,ae c.2])/\aI w' (aR w' 27) x c.1.t/\aS w' B 39 2 lW nv c.1.names
theorem m7 {P:Program} {fn:Func} {R:Ending->World->Prop} {a:Act} {w:World} (hd:a.defers=[]) (v:Value) (h1:(results fn a.tmps).run P w=.ok v w) (h2:R (.returned v) w):bodyPostD P fn R .ret a w:=by
 show Leaves P fn a.tmps R a.defers .returning w
 rw[hd]
 exact⟨v,h1,h2⟩
theorem md {w w':World} {cb:Nat} {p0 p1 p2 p3 p4 p5:Addr} {x0 x1 x2 x3 x4 x5:Value} (h:w.cell? p0=some x0/\w.cell? p1=some x1/\w.cell? p2=some x2/\w.cell? p3=some x3/\w.cell? p4=some x4/\w.cell? p5=some x5)
 (hb:∀k,k≠cb->w'.heap[k]?=w.heap[k]?) (n0:p0.block≠cb) (n1:p1.block≠cb) (n2:p2.block≠cb) (n3:p3.block≠cb) (n4:p4.block≠cb) (n5:p5.block≠cb):w'.cell? p0=some x0/\w'.cell? p1=some x1/\w'.cell? p2=some x2/\w'.cell? p3=some x3/\w'.cell? p4=some x4/\w'.cell? p5=some x5:=
 ⟨(World.cell?_of_block (hb _ n0)).trans h.1,(World.cell?_of_block (hb _ n1)).trans h.2.1,(World.cell?_of_block (hb _ n2)).trans h.2.2.1,(World.cell?_of_block (hb _ n3)).trans h.2.2.2.1,(World.cell?_of_block (hb _ n4)).trans h.2.2.2.2.1,(World.cell?_of_block (hb _ n5)).trans h.2.2.2.2.2⟩
theorem j8 {w:World} {p0 p1 p2 p3 p4 p5:Addr} {x0 x1 x2 x3 x4 x5:Option Value} (h:w.cell? p0=x0/\w.cell? p1=x1/\w.cell? p2=x2/\w.cell? p3=x3/\w.cell? p4=x4/\w.cell? p5=x5):w.drew.cell? p0=x0/\w.drew.cell? p1=x1/\w.drew.cell? p2=x2/\w.drew.cell? p3=x3/\w.drew.cell? p4=x4/\w.drew.cell? p5=x5:=h
theorem xZ {W:World} {cb eb:Nat} {x0 x1 x2 x3 x4 x5 x6 y:Value} (hC:W.heap[cb]?=some (.cells #[x0,x1,x2,x3,x4,x5,x6] 43 (0,0))) (hE:W.heap[eb]?=some (.cells #[y] 49 (0,0))) (hne:cb≠eb) (a0 a1 a2 a3 a4 a5 a6 er:Value):
 ((((((((W.setCell (ak cb 0) a0).setCell (ak cb 1) a1).setCell (ak cb 2) a2).setCell (ak cb 3) a3).setCell (ak cb 4) a4).setCell (ak cb 5) a5).setCell (ak cb 6) a6).setCell (ak eb 0) er).heap[cb]?=some (.cells #[a0,a1,a2,a3,a4,a5,a6] 43 (0,0))∧
 ((((((((W.setCell (ak cb 0) a0).setCell (ak cb 1) a1).setCell (ak cb 2) a2).setCell (ak cb 3) a3).setCell (ak cb 4) a4).setCell (ak cb 5) a5).setCell (ak cb 6) a6).setCell (ak eb 0) er).heap[eb]?=some (.cells #[er] 49 (0,0)):=by
 refine⟨?_,?_⟩
 ·rw[av _ _ _ _ hne]
  exact nl hC _ _ _ _ _ _ _
 ·exact aK ((iM _ _ _ _ _ _ _ (fun e=>hne e.symm)).trans hE) _
def D0:Array Value:=#[ae 0,ae 0,ai,aj,aj,ae 0,ae 0]
theorem yR (w:World) (A:Option Addr) (n c:Nat) (ts:List dq) (hT:fg w w.heap.size A n ts) (i:Int) (bt:Nat) (o:qm) (he:i<0\/(ts.length:Int)<=i\/(bg ts i.toNat).kind=0):
 Calls prog 25 #[.slice A n c,ae i,ah bt] w fun e w'=>jd w w' (qC o ts i) e:=by
 have hr:qC o ts i=(⟨aQ,[],0,0⟩,7):=by unfold qC;rw[if_pos he]
 rw[hr]
 clear hr
 have hln:=hT.len
 have HT:=ad hT
 obtain⟨R,hR⟩:∃R:Ending->World->Prop,R=fun e w'=>jd w w' (⟨aQ,[],0,0⟩,7) e:=⟨_,rfl⟩
 rw[<-hR]
 have HW:Hid (∀er,R (.returned (.tuple #[BO ⟨0,0,[],none,0,0⟩ aj 0 0,ae 7])) (((w.alloc (.cells #[.slice A n c] 67)).alloc (.cells D0 43)).alloc (.cells #[er] 49))):=ad (fun er=>by
  rw[hR]
  refine⟨(aB.alloc (by simp) _).alloc (by simp;omega) _,⟨0,0,[],none,0,0⟩,aj,0,rfl,.leaf _ _ _ _ _ _ _ (Nat.zero_le _),aS.nil _ _ _ _ _⟩)
 clear hR hT
 unfold D0 BO at HW
 by_cases h1:i<0
 ·clear he
  go_enter_defers func25,ntmps25
  go_wp2_with fail
  exact m7 rfl (.tuple #[.agg #[ae 0,ae 0,ai,aj,aj,ae 0,ae 0],ae 7]) (by simp[results,results25,go_sem]) (HW.out _)
 by_cases h2:(n:Int)<=i
 ·clear he
  go_enter_defers func25,ntmps25
  go_wp2_with fail
  exact m7 rfl (.tuple #[.agg #[ae 0,ae 0,ai,aj,aj,ae 0,ae 0],ae 7]) (by simp[results,results25,go_sem]) (HW.out _)
 have h3:(bg ts i.toNat).kind=0:=by rcases he with h|h|h<;>first|exact h|(exfalso;omega)
 obtain⟨k,hk⟩:∃k:Nat,i=(k:Int):=⟨i.toNat,by omega⟩
 subst hk
 have hkl:k<ts.length:=by omega
 have hp:bg ts k=ts[k]:=by unfold bg;rw[List.getD_eq_getElem?_getD,au hkl];rfl
 obtain⟨b,off,e1,e2,d0,-,-,-,-,-⟩:=HT.at' k _ (au hkl)
 rw[Int.toNat_natCast,hp]at h3
 rw[h3]at d0
 subst e1
 have hk0:(0:Int)<=(k:Int):=by omega
 have hb1:b<w.heap.size+1:=by omega
 have hb2:b<w.heap.size+1+1:=by omega
 have hb3:b<w.heap.size+1+1+1:=by omega
 have hkn:(k:Int)<(n:Int):=by omega
 clear he hp h3
 go_enter_defers func25,ntmps25
 go_wp2_with fail
 exact m7 rfl (.tuple #[.agg #[ae 0,ae 0,ai,aj,aj,ae 0,ae 0],ae 7]) (by simp[results,results25,go_sem]) (HW.out _)
theorem sE (w:World) (A:Option Addr) (n c:Nat) (ts:List dq) (hT:fg w w.heap.size A n ts) (hf:ts.length<=20000) (k:Nat) (hkl:k<ts.length) (hkd:(bg ts k).kind≠0) (bt:Nat) (s':cI) (hsm0:s'.t.may=true/\s'.t.size<=2000)
 (hCL:∀W rb bb mb,aE w W->bU W rb (rdV A n c bt bb mb) ts (AJ k) (w.heap.size+3)->dS W mb []->aW W bb kp (ww rb) kQ->w.heap.size+3<=mb->mb<rb->rb<bb->Calls prog 62 #[ah rb] W fun e u'=>
   ∃x v',e=.returned (aU x)/\bU u' rb v' ts s' (w.heap.size+3)/\kU u' rb v'.nv s'.names/\aI u' (aR u' 27) x s'.t/\Fr (fun k=>k=rb\/k=mb) W u'):
 Calls prog 25 #[.slice A n c,ae (k:Nat),ah bt] w fun e w'=>jd w w' (⟨s'.t,s'.names,(bg ts k).line,(s'.at':Int)+1⟩,0) e:=by
 have hmm:=@run_makeMap prog
 have hmf:∀(fn:Fn) (first cap:Array Value) (w:World),(Instr.makeFunc fn first cap).run prog w=.ok (.func fn first cap) w:=fun _ _ _ _=>rfl
 have hln:=hT.len
 have HT:=ad hT
 have HCLH:=ad hCL
 have HSM0:=ad hsm0
 have hkn:(k:Int)<(n:Int):=by omega
 have hk0:(0:Int)<=(k:Int):=by omega
 have hp:bg ts k=ts[k]:=by unfold bg;rw[List.getD_eq_getElem?_getD,au hkl];rfl
 obtain⟨b,off,e1,e2,d0,d1,-,-,-,-⟩:=HT.at' k _ (au hkl)
 rw[<-hp]at d0 d1
 have hkb:((bg ts k).kind==0)=false:=beq_eq_false_iff_ne.2 hkd
 have HKK:=ad hkd
 generalize hK9:(bg ts k).kind=K9 at d0 hkb
 generalize hL9:(bg ts k).line=L9 at d1
 subst e1
 have hb1:b<w.heap.size+1:=by omega
 have hb2:b<w.heap.size+1+1:=by omega
 have hb3:b<w.heap.size+1+1+1:=by omega
 obtain⟨R,hR⟩:∃R:Ending->World->Prop,R=fun e w'=>jd w w' (⟨s'.t,s'.names,L9,(s'.at':Int)+1⟩,0) e:=⟨_,rfl⟩
 rw[<-hR]
 have HRR:=ad hR
 clear hR hT hCL hsm0 hp hkd
 have HLK:=ad (aD hK9 hL9)
 clear hK9 hL9
 go_enter_defers func25,ntmps25
 go_upto_region 6 with fail
 obtain⟨pb,hpb⟩:∃x,x=w.heap.size+1+1+1+1+1:=⟨_,rfl⟩
 obtain⟨rb,hrb⟩:∃x,x=w.heap.size+1+1+1+1:=⟨_,rfl⟩
 obtain⟨mb,hmb⟩:∃x,x=w.heap.size+1+1+1:=⟨_,rfl⟩
 obtain⟨eb,heb⟩:∃x,x=w.heap.size+1+1:=⟨_,rfl⟩
 obtain⟨cb,hcb⟩:∃x,x=w.heap.size+1:=⟨_,rfl⟩
 obtain⟨lb,hlb⟩:∃x,x=w.heap.size:=⟨_,rfl⟩
 rw[<-hpb,<-hrb,<-hmb,<-heb,<-hcb,<-hlb]
 obtain⟨U,hU⟩:∃U,U=(((((w.alloc (.cells #[.slice (some (ak b off)) n c] 67)).alloc (.cells D0 43)).alloc (.cells #[ae 0] 49)).alloc (.map #[] 0)).alloc (.cells #[.slice (some (ak b off)) n c,ae (k:Nat),ah bt,.map none,aj,ae 0,.bool false,ae 0,ae 0,ai,aj,ae 0,.map (some mb),aj,ae 0] 148)).alloc (.cells #[ah rb] 143):=⟨_,rfl⟩
 unfold D0 at hU
 rw[<-hU]
 have hUa:U=eH w [.cells #[.slice (some (ak b off)) n c] 67,.cells D0 43,.cells #[ae 0] 49,.map #[] 0,.cells #[.slice (some (ak b off)) n c,ae (k:Nat),ah bt,.map none,aj,ae 0,.bool false,ae 0,ae 0,ai,aj,ae 0,.map (some mb),aj,ae 0] 148,.cells #[ah rb] 143]:=hU
 have u0:U.heap[lb]?=some (.cells #[.slice (some (ak b off)) n c] 67 (0,0)):=by rw[hUa,hlb];exact cg w _ 0 _ rfl
 have u1:U.heap[cb]?=some (.cells D0 43 (0,0)):=by rw[hUa,hcb];exact cg w _ 1 _ rfl
 have u2:U.heap[eb]?=some (.cells #[ae 0] 49 (0,0)):=by rw[hUa,heb];exact cg w _ 2 _ rfl
 have u3:U.heap[mb]?=some (.map #[] 0):=by rw[hUa,hmb];exact cg w _ 3 _ rfl
 have u4:U.heap[rb]?=some (.cells #[.slice (some (ak b off)) n c,ae (k:Nat),ah bt,.map none,aj,ae 0,.bool false,ae 0,ae 0,ai,aj,ae 0,.map (some mb),aj,ae 0] 148 (0,0)):=by rw[hUa,hrb];exact cg w _ 4 _ rfl
 have u5:U.heap[pb]?=some (.cells #[ah rb] 143 (0,0)):=by rw[hUa,hpb];exact cg w _ 5 _ rfl
 have hUs:U.heap.size=w.heap.size+6:=by rw[hUa,iB];rfl
 have hUb:aE w U:=by rw[hUa];exact dW w _
 have hM0:=aW.made (ek:=kp) (ev:=ww rb) (κ:=Int) (ν:=Nat) U
 have hbU:aE U (U.alloc (.map #[] 0)):=aB
 obtain⟨w1,w2,w3,w4,w5,w6,a1,a2,a3,a4,a5,a6,hM6,f1,f2,f3,f4,f5,f6,hs6⟩:=As hM0
 unfold Do at a1 a2 a3 a4 a5 a6
 have pc:∀W,Fr (·=U.heap.size) (U.alloc (.map #[] 0)) W->∀k o,k<U.heap.size->U.heap[k]?=some o->W.heap[k]?=some o:=fun W hF k o hk ho=>(hF.block k (by simp;omega) (by omega)).trans ((hbU.block k hk).trans ho)
 have PC:=ad pc
 have hpl:pb<U.heap.size:=by omega
 have hrl:rb<U.heap.size:=by omega
 have q0:U.cell? (ak pb 0)=some (ah rb):=by rw[cell_of_row U pb 0 _ _ (0,0) u5];rfl
 have q1:w1.cell? (ak pb 0)=some (ah rb):=by rw[cell_of_row w1 pb 0 _ _ (0,0) (pc w1 f1 pb _ hpl u5)];rfl
 have q2:w2.cell? (ak pb 0)=some (ah rb):=by rw[cell_of_row w2 pb 0 _ _ (0,0) (pc w2 f2 pb _ hpl u5)];rfl
 have q3:w3.cell? (ak pb 0)=some (ah rb):=by rw[cell_of_row w3 pb 0 _ _ (0,0) (pc w3 f3 pb _ hpl u5)];rfl
 have q4:w4.cell? (ak pb 0)=some (ah rb):=by rw[cell_of_row w4 pb 0 _ _ (0,0) (pc w4 f4 pb _ hpl u5)];rfl
 have q5:w5.cell? (ak pb 0)=some (ah rb):=by rw[cell_of_row w5 pb 0 _ _ (0,0) (pc w5 f5 pb _ hpl u5)];rfl
 have q6:w6.cell? (ak pb 0)=some (ah rb):=by rw[cell_of_row w6 pb 0 _ _ (0,0) (pc w6 f6 pb _ hpl u5)];rfl
 have hr6:=pc w6 f6 rb _ hrl u4
 have r3:w6.cell? (ak rb 3)=some (.map none):=by rw[cell_of_row w6 rb 3 _ _ (0,0) hr6];rfl
 have rf:∀o,w6.frozen? ⟨rb,o,none⟩=false:=fun o=>by simp[World.frozen?,hr6]
 have HR6:=ad hr6
 have HM6:=ad hM6
 have HF6:=ad f6
 have HU0:=ad u0
 have HU1:=ad u1
 have HU2:=ad u2
 have HU3:=ad u3
 have HU5:=ad u5
 have HUB:=ad hUb
 have HBU:=ad hbU
 have hne:pb≠rb:=by omega
 have HN:=ad (aD hlb (aD hcb (aD heb (aD hmb (aD hrb hpb)))))
 have HS:=ad (aD hUs hs6)
 clear hU hUa u0 u1 u2 u3 u4 u5 hM0 hbU hM6 f1 f2 f3 f4 f5 f6 pc hUb hr6 hlb hcb heb hmb hrb hpb hUs hs6 hb1 hb2 hb3
 go_upto_region 7 with fail
 clear hmm a1 a2 a3 a4 a5 a6 q0 q1 q2 q3 q4 q5 r3
 obtain⟨W7,hW7⟩:∃W7,W7=w6.setCell (ak rb 3) (.map (some U.heap.size)):=⟨_,rfl⟩
 rw[<-hW7]
 obtain⟨hlb,hcb,heb,hmb,hrb,hpb⟩:=HN.out
 obtain⟨hUs,hs6⟩:=HS.out
 have hk7:∀k o,k<U.heap.size->k≠rb->U.heap[k]?=some o->W7.heap[k]?=some o:=fun k o hk hne ho=>by rw[hW7,av _ _ _ _ hne];exact PC.out w6 HF6.out k o hk ho
 have h7:W7.heap[rb]?=some (.cells #[.slice (some (ak b off)) n c,ae (k:Nat),ah bt,.map (some U.heap.size),aj,ae 0,.bool false,ae 0,ae 0,ai,aj,ae 0,.map (some mb),aj,ae 0] 148 (0,0)):=by rw[hW7];exact aK HR6.out _
 have hb7:aE w W7:=by
  rw[hW7]
  have h1:Below w.heap.size (U.alloc (.map #[] 0)) w6:=HF6.below (by simp;omega) fun k hk=>by omega
  have h2:aE w (U.alloc (.map #[] 0)):=HUB.trans (HBU.mono (by omega))
  exact(h2.trans h1).setCell (p:=(ak rb 3)) (by simp only;omega) _
 have hu3:=hk7 mb _ (by omega) (by omega) HU3.out
 have HCL:=ad (HCLH.out W7 rb U.heap.size mb hb7 ⟨h7,(HT.keep hb7.block).up (by omega),by omega,hf,Nat.le_of_lt hkl⟩ ⟨⟨⟨#[],0,hu3,rfl,MapKept.stamped_empty 0⟩,by simp⟩,fun x hx=>by cases hx⟩ (by rw[hW7];exact HM6.setCell (p:=(ak rb 3)) (by simp only;omega) _) (by omega) (by omega) (by omega))
 clear HCLH hu3
 have q7:W7.cell? (ak pb 0)=some (ah rb):=by rw[cell_of_row W7 pb 0 _ _ (0,0) (hk7 pb _ hpl hne HU5.out)];rfl
 have H7l:=ad (hk7 lb _ (by omega) (by omega) HU0.out)
 have H7c:=ad (hk7 cb _ (by omega) (by omega) HU1.out)
 have H7e:=ad (hk7 eb _ (by omega) (by omega) HU2.out)
 have H7p:=ad (hk7 pb _ hpl hne HU5.out)
 have HB7:=ad hb7
 clear hW7 hk7 h7 hb7 HR6 HM6 HF6 HU0 HU1 HU2 HU3 HU5 HUB HBU PC hlb hcb heb hmb hrb hpb hUs hs6 q6 rf hpl hrl
 go_wp2_with fail
 refine HCL.mono ?_
 rintro e w8 ⟨x,v',rfl,h2,h3,h4,hf8⟩
 have hb8:∀q,q<W7.heap.size->q≠rb->q≠mb->w8.heap[q]?=W7.heap[q]?:=fun q hq n1 n2=>hf8.block q hq fun e=>e.elim n1 n2
 ·obtain⟨hlb,hcb,heb,hmb,hrb,hpb⟩:=HN.out
  have hsm:s'.t.size<=10000000/\s'.t.deep<=10000000:=by have:=HSM0.2;have:=cV s'.t;omega
  have hl7:∀q o,W7.heap[q]?=some o->q<W7.heap.size:=fun q o h=>(ap h).1
  have k1:=(hb8 lb (hl7 _ _ H7l.out) (by omega) (by omega)).trans H7l.out
  have k2:=(hb8 cb (hl7 _ _ H7c.out) (by omega) (by omega)).trans H7c.out
  have k3:=(hb8 eb (hl7 _ _ H7e.out) (by omega) (by omega)).trans H7e.out
  have k4:=(hb8 pb (hl7 _ _ H7p.out) (by omega) (by omega)).trans H7p.out
  have hrd:bU w8 rb v' ts s' (w.heap.size+3):=h2
  have l0:w8.cell? (ak lb 0)=some (.slice (some (ak b off)) n c):=by rw[cell_of_row w8 lb 0 _ _ (0,0) k1];rfl
  have p0:w8.cell? (ak pb 0)=some (ah rb):=by rw[cell_of_row w8 pb 0 _ _ (0,0) k4];rfl
  have r1:w8.cell? (ak rb 1)=some (ae (s'.at':Int)):=hrd.blk.cell (i:=1) rfl
  have r13:w8.cell? (ak rb 13)=some v'.nv:=hrd.blk.cell (i:=13) rfl
  have hw8:w.heap.size+3<=w8.heap.size:=by have:=hrd.blk.lt;omega
  have t1:w8.cell? (ak b (off+k*6+1))=some (ae L9):=by
   have h5:=(World.cell?_of_block (a:=⟨b,off+k*6+1,none⟩) ((hb8 b (by have:=HB7.size;omega) (by omega) (by omega)).trans (HB7.block b e2)))
   exact h5.trans d1
  unfold D0 at k2
  obtain⟨z0,z1,z2,z3,z4,z5,z6,zf⟩:=eU k2
  have y0:w8.cell? (ak eb 0)=some (ae 0):=by rw[cell_of_row w8 eb 0 _ _ (0,0) k3];rfl
  have yf:∀o,w8.frozen? ⟨eb,o,none⟩=false:=fun o=>by simp[World.frozen?,k3]
  have hin:=hrd.in'
  have hwr:IntKind.i64.wrap ((s'.at':Int)+1)=(s'.at':Int)+1:=IntWalk.i64_in _ (by omega)
  have HB8:=ad (HB7.trans (hf8.below HB7.size fun q hq e=>by rcases e with e|e<;>omega))
  have HRD:=ad hrd
  have HNR:=ad h3
  have HTM:=ad h4
  have HC8:=ad k2
  have HE8:=ad k3
  have bl8:b<w8.heap.size:=by omega
  have ll8:lb<w8.heap.size:=by omega
  have pl8:pb<w8.heap.size:=World.block_lt_of_cell? w8 _ p0
  have rl8:rb<w8.heap.size:=hrd.blk.lt
  have cl8:cb<w8.heap.size:=by omega
  have el8:eb<w8.heap.size:=by omega
  have nce:cb≠eb:=by omega
  have nlc:lb≠cb:=by omega
  have npc:pb≠cb:=by omega
  have nrc:rb≠cb:=by omega
  have nbc:b≠cb:=by omega
  clear hb8 hf8 hl7 h2 h3 h4 k1 k2 k3 k4 hrd d0 d1 hlb hcb heb hmb hrb hpb q7
  unfold aU
  go_wp2_with fail
  go_region
  go_wp2_with fail
  obtain⟨N1,hN1⟩:∃N1,N1=(s'.at':Int)+1:=⟨_,rfl⟩
  rw[<-hN1]
  have HN1:=ad hN1
  obtain⟨WA,hWA⟩:∃WA,WA=((((((((w8.setCell (ak cb 0) (ae 0)).setCell (ak cb 1) (ae 0)).setCell (ak cb 2) ai).setCell (ak cb 3) aj).setCell (ak cb 4) aj).setCell (ak cb 5) (ae L9)).setCell (ak cb 6) (ae N1)).alloc (.cells #[ae x.k,ae x.n,af x.s,.slice x.A x.len x.cap] 27)).drew:=⟨_,rfl⟩
  rw[<-hWA]
  have hs7:(((((((w8.setCell (ak cb 0) (ae 0)).setCell (ak cb 1) (ae 0)).setCell (ak cb 2) ai).setCell (ak cb 3) aj).setCell (ak cb 4) aj).setCell (ak cb 5) (ae L9)).setCell (ak cb 6) (ae N1)).heap.size=w8.heap.size:=by simp[World.setCell]
  have hd:∀W:World,W.drew.heap=W.heap:=fun _=>rfl
  have hWAs:WA.heap.size=w8.heap.size+1:=by rw[hWA,hd,World.size_alloc,hs7]
  have hcA:WA.heap[cb]?=some (.cells #[ae 0,ae 0,ai,aj,aj,ae L9,ae N1] 43 (0,0)):=by
   rw[hWA,hd,aw _ _ _ (by rw[hs7];exact cl8)]
   exact nl HC8.out _ _ _ _ _ _ _
  have hkA:∀k,k<w8.heap.size->k≠cb->WA.heap[k]?=w8.heap[k]?:=fun k hk hne=>by
   rw[hWA,hd,aw _ _ _ (by rw[hs7];exact hk)]
   exact iM _ _ _ _ _ _ _ hne
  have hgA:WA.heap[w8.heap.size]?=some (.cells #[ae x.k,ae x.n,af x.s,.slice x.A x.len x.cap] 27 (0,0)):=by
   rw[hWA,hd]
   have:=heap_alloc_new (((((((w8.setCell (ak cb 0) (ae 0)).setCell (ak cb 1) (ae 0)).setCell (ak cb 2) ai).setCell (ak cb 3) aj).setCell (ak cb 4) aj).setCell (ak cb 5) (ae L9)).setCell (ak cb 6) (ae N1)) (.cells #[ae x.k,ae x.n,af x.s,.slice x.A x.len x.cap] 27)
   rw[hs7]at this
   exact this
  obtain⟨hlb,hcb,heb,hmb,hrb,hpb⟩:=HN.out
  have hb0:Below 0 w8 WA:=by
   rw[hWA]
   exact(((((((((Below.refl 0 w8).setCell (p:=(ak cb 0)) (Nat.zero_le _) _).setCell (p:=(ak cb 1)) (Nat.zero_le _) _).setCell (p:=(ak cb 2)) (Nat.zero_le _) _).setCell (p:=(ak cb 3)) (Nat.zero_le _) _).setCell (p:=(ak cb 4)) (Nat.zero_le _) _).setCell (p:=(ak cb 5)) (Nat.zero_le _) _).setCell (p:=(ak cb 6)) (Nat.zero_le _) _).alloc (Nat.zero_le _) _).drew
  have hbA:aE w WA:=HB8.trans ⟨hb0.os,hb0.tape,hb0.output,by omega,fun k hk=>hkA k (by omega) (by omega)⟩
  have hxA:aI WA (aR WA 27) x s'.t:=HTM.keep (fun b hb=>hb.keep (hkA b hb.lt (hb.ne ⟨_,HC8.out⟩ (by decide)))) fun b hb=>hkA b hb.lt (hb.ne ⟨_,HC8.out⟩ (by decide))
  have hnA:kU WA rb v'.nv s'.names:=aS.keep HNR.out fun k hk=>hkA k (HNR.lt k hk).2 ((HNR.ty hk).ne ⟨_,HC8.out⟩ (by decide))
  have hck:=cY WA x s'.t (hxA.at fun b hb=>hb.lt) (by omega) (by omega)
  rw[FR]at hck
  have HCK:=ad hck
  have HBA:=ad hbA
  have HXA:=ad hxA
  have HNA:=ad hnA
  have HCA:=ad hcA
  have HGA:=ad hgA
  have HEA:=ad ((hkA eb el8 (by omega)).trans HE8.out)
  have HRA:=ad ((hkA rb rl8 nrc).trans HRD.blk)
  have HPA:Hid (WA.cell? (ak pb 0)=some (ah rb)):=ad ((World.cell?_of_block (a:=⟨pb,0,none⟩) (hkA pb pl8 npc)).trans p0)
  clear hN1 hWA hd hb0 hs7 hcA hkA hgA hbA hxA hnA hck l0 p0 r1 r13 t1 z0 z1 z2 z3 z4 z5 z6 zf y0 yf hlb hcb heb hmb hrb hpb hwr
  refine HCK.mono ?_
  rintro e wB ⟨rfl,hbB⟩
  have hlk:∀k,k<w8.heap.size+1->wB.heap[k]?=WA.heap[k]?:=fun k hk=>hbB.block k (by omega)
  have hcB:=(hlk cb (by omega)).trans HCA.out
  have hgB:=(hlk w8.heap.size (by omega)).trans HGA.out
  have heB:=(hlk eb (by omega)).trans HEA.out
  have hrB:vr wB rb v' s':=(hlk rb (by omega)).trans HRA.out
  obtain⟨z0,z1,z2,z3,z4,z5,z6,zf⟩:=eU hcB
  obtain⟨g0,g1,g2,g3,gf⟩:=aH hgB
  have y0:wB.cell? (ak eb 0)=some (ae 0):=by rw[cell_of_row wB eb 0 _ _ (0,0) heB];rfl
  have yf:∀o,wB.frozen? ⟨eb,o,none⟩=false:=fun o=>by simp[World.frozen?,heB]
  have p0:wB.cell? (ak pb 0)=some (ah rb):=(World.cell?_of_block (a:=⟨pb,0,none⟩) (hlk pb (by omega))).trans HPA.out
  obtain⟨An,cn,hshn⟩:=HNA.shape
  have r13:wB.cell? (ak rb 13)=some (.slice An s'.names.length cn):=(hrB.cell (i:=13) rfl).trans (congrArg some hshn)
  have hBB:=HBA.trans (hbB.mono HBA.size)
  have HBB:=ad hBB
  have HCB:=ad hcB
  have HEB:=ad heB
  have HXB:Hid (aI wB (aR wB 27) x s'.t):=ad (HXA.keep (fun b hb=>hb.keep (hbB.block b hb.lt)) fun b hb=>hbB.block b hb.lt)
  have hnB:kU wB rb v'.nv s'.names:=aS.later HNA.out hbB
  rw[hshn]at hnB
  have HNB:=ad hnB
  have hwBs:w8.heap.size+1<=wB.heap.size:=by rw[<-hWAs];exact hbB.size
  have gl9:w8.heap.size<wB.heap.size:=by omega
  have cl9:cb<wB.heap.size:=by omega
  have el9:eb<wB.heap.size:=by omega
  have pl9:pb<wB.heap.size:=by omega
  have rl9:rb<wB.heap.size:=by omega
  have ngc:w8.heap.size≠cb:=by omega
  have nge:w8.heap.size≠eb:=by omega
  obtain⟨ck,hck⟩:∃ck,ck=dG s'.t:=⟨_,rfl⟩
  rw[<-hck]
  have HCT:=ad hck
  clear hck hlk hcB hgB heB hrB hshn hBB hnB hbB
  obtain rfl:ck=0:=HCT.trans (ew HSM0.1 HSM0.2)
  ·have HS6:=ad (aD g0 (aD g1 (aD g2 (aD g3 (aD p0 r13)))))
   have HST:=ad (md (w':=((((wB.setCell (ak cb 0) (ae x.k)).setCell (ak cb 1) (ae x.n)).setCell (ak cb 2) (af x.s)).setCell (ak cb 3) (.slice x.A x.len x.cap))) HS6.out (fun k hk=>aM _ _ _ _ hk) ngc ngc ngc ngc npc nrc)
   have HSM:=ad (md (w':=wB.setCell (ak cb 4) (.slice An s'.names.length cn)) HS6.out (fun k hk=>av _ _ _ _ hk) ngc ngc ngc ngc npc nrc)
   have HSTM:=ad (md (w':=((((wB.setCell (ak cb 0) (ae x.k)).setCell (ak cb 1) (ae x.n)).setCell (ak cb 2) (af x.s)).setCell (ak cb 3) (.slice x.A x.len x.cap)).setCell (ak cb 4) (.slice An s'.names.length cn)) HST.out (fun k hk=>av _ _ _ _ hk) ngc ngc ngc ngc npc nrc)
   have HSMT:=ad (md (w':=(((((wB.setCell (ak cb 4) (.slice An s'.names.length cn)).setCell (ak cb 0) (ae x.k)).setCell (ak cb 1) (ae x.n)).setCell (ak cb 2) (af x.s)).setCell (ak cb 3) (.slice x.A x.len x.cap))) HSM.out (fun k hk=>aM _ _ _ _ hk) ngc ngc ngc ngc npc nrc)
   go_upto_region 12 with fail
   go_region_held3 (fun u'=>u'.cell? (ak w8.heap.size 0)=some (ae x.k)/\u'.cell? (ak w8.heap.size 1)=some (ae x.n)/\u'.cell? (ak w8.heap.size 2)=some (af x.s)/\u'.cell? (ak w8.heap.size 3)=some (.slice x.A x.len x.cap)/\u'.cell? (ak pb 0)=some (ah rb)/\u'.cell? (ak rb 13)=some (.slice An s'.names.length cn))
    (first|(with_reducible exact HS6.out)|(with_reducible exact HST.out)|(with_reducible exact HSM.out)|(with_reducible exact HSTM.out)|(with_reducible exact HSMT.out)|(with_reducible exact j8 HS6.out)|(with_reducible exact j8 HST.out)|(with_reducible exact j8 HSM.out)|(with_reducible exact j8 HSTM.out)|(with_reducible exact j8 HSMT.out))
    (fail)
   all_goals
    go_wp2_with fail
    have hC5:(((((wB.setCell (ak cb 0) (ae x.k)).setCell (ak cb 1) (ae x.n)).setCell (ak cb 2) (af x.s)).setCell (ak cb 3) (.slice x.A x.len x.cap)).setCell (ak cb 4) (.slice An s'.names.length cn)).heap[cb]?=some (.cells #[ae x.k,ae x.n,af x.s,.slice x.A x.len x.cap,.slice An s'.names.length cn,ae L9,ae N1] 43 (0,0)):=aK (aK (aK (aK (aK HCB.out _) _) _) _) _
    have hne5:∀k,k≠cb->(((((wB.setCell (ak cb 0) (ae x.k)).setCell (ak cb 1) (ae x.n)).setCell (ak cb 2) (af x.s)).setCell (ak cb 3) (.slice x.A x.len x.cap)).setCell (ak cb 4) (.slice An s'.names.length cn)).heap[k]?=wB.heap[k]?:=fun k hk=>(av _ _ _ _ hk).trans (aM _ _ _ _ hk)
    have hfc:=xZ hC5 ((hne5 eb (fun e=>nce e.symm)).trans HEB.out) nce (ae x.k) (ae x.n) (af x.s) (.slice x.A x.len x.cap) (.slice An s'.names.length cn) (ae L9) (ae N1) (ae 0)
    have hcbw:w.heap.size<=cb:=by have:=HN.2.1;omega
    have hebw:w.heap.size<=eb:=by have:=HN.2.2.1;omega
    have hb5:aE w (((((wB.setCell (ak cb 0) (ae x.k)).setCell (ak cb 1) (ae x.n)).setCell (ak cb 2) (af x.s)).setCell (ak cb 3) (.slice x.A x.len x.cap)).setCell (ak cb 4) (.slice An s'.names.length cn)):=((((HBB.setCell (p:=(ak cb 0)) hcbw _).setCell (p:=(ak cb 1)) hcbw _).setCell (p:=(ak cb 2)) hcbw _).setCell (p:=(ak cb 3)) hcbw _).setCell (p:=(ak cb 4)) hcbw _
    have hbf:=(AW hb5 cb hcbw (ae x.k) (ae x.n) (af x.s) (.slice x.A x.len x.cap) (.slice An s'.names.length cn) (ae L9) (ae N1)).setCell (p:=(ak eb 0)) hebw (ae 0)
    have hnf:∀k,k≠cb->k≠eb->(((((((((((((wB.setCell (ak cb 0) (ae x.k)).setCell (ak cb 1) (ae x.n)).setCell (ak cb 2) (af x.s)).setCell (ak cb 3) (.slice x.A x.len x.cap)).setCell (ak cb 4) (.slice An s'.names.length cn)).setCell (ak cb 0) (ae x.k)).setCell (ak cb 1) (ae x.n)).setCell (ak cb 2) (af x.s)).setCell (ak cb 3) (.slice x.A x.len x.cap)).setCell (ak cb 4) (.slice An s'.names.length cn)).setCell (ak cb 5) (ae L9)).setCell (ak cb 6) (ae N1)).setCell (ak eb 0) (ae 0)).heap[k]?=wB.heap[k]?:=fun k h1 h2=>(av _ _ _ _ h2).trans ((iM _ _ _ _ _ _ _ h1).trans (hne5 k h1))
    obtain⟨WF,hWF⟩:∃WF,WF=(((((((((((((wB.setCell (ak cb 0) (ae x.k)).setCell (ak cb 1) (ae x.n)).setCell (ak cb 2) (af x.s)).setCell (ak cb 3) (.slice x.A x.len x.cap)).setCell (ak cb 4) (.slice An s'.names.length cn)).setCell (ak cb 0) (ae x.k)).setCell (ak cb 1) (ae x.n)).setCell (ak cb 2) (af x.s)).setCell (ak cb 3) (.slice x.A x.len x.cap)).setCell (ak cb 4) (.slice An s'.names.length cn)).setCell (ak cb 5) (ae L9)).setCell (ak cb 6) (ae N1)).setCell (ak eb 0) (ae 0)):=⟨_,rfl⟩
    rw[<-hWF]at hfc hbf hnf⊢
    clear hWF hC5 hne5 hb5
    obtain⟨f0,f1,f2,f3,f4,f5,f6,ff⟩:=eU hfc.1
    have f7:WF.cell? (ak eb 0)=some (ae 0):=by rw[cell_of_row WF eb 0 _ _ (0,0) hfc.2];rfl
    refine leaves_cons (f:=60) (args:=#[ah lb,ah pb,ah cb,ah eb]) (by simp) (by simp[go_sem]) ?_
    refine(tI _ _ _ _ _).mono ?_
    rintro e u' w'' ⟨rfl,rfl,rfl⟩
    show Leaves prog Tryz.f25 _ R [] .returning _
    refine⟨.tuple #[.agg #[ae x.k,ae x.n,af x.s,.slice x.A x.len x.cap,.slice An s'.names.length cn,ae L9,ae N1],ae 0],by simp[results,results25,go_sem,f0,f1,f2,f3,f4,f5,f6,f7],?_⟩
    rw[HRR.out]
    have hxF:aI WF (aR WF 27) x s'.t:=HXB.keep (fun b hb=>hb.keep (hnf b (hb.ne ⟨_,HCB.out⟩ (by decide)) (hb.ne ⟨_,HEB.out⟩ (by decide)))) fun b hb=>hnf b (hb.ne ⟨_,HCB.out⟩ (by decide)) (hb.ne ⟨_,HEB.out⟩ (by decide))
    have hnF:kU WF rb (.slice An s'.names.length cn) s'.names:=aS.keep HNB.out fun k hk=>hnf k ((HNB.ty hk).ne ⟨_,HCB.out⟩ (by decide)) ((HNB.ty hk).ne ⟨_,HEB.out⟩ (by decide))
    have hxA:aI WF.drew (aR WF.drew 27) x s'.t:=hxF.keep (fun _ hb=>hb) fun _ _=>rfl
    exact⟨hbf.drew,x,(.slice An s'.names.length cn),rb+1,by rw[HN1.out];rfl,hxA,aS.later hnF aA.drew⟩
end
end Go.Proofs.YtigeofkllldilaaGreatDoor
