import Derived.Test.YtigeofkllldilaaGreatDoorJM39
import Derived.Test.YtigeofkllldilaaGreatDoorJM25
import Derived.Test.YtigeofkllldilaaGreatDoorJM32
set_option maxHeartbeats 32000000
set_option maxRecDepth 100000
set_option linter.unusedSectionVars false
open Go.Proofs.Tryz
namespace Go.Proofs.YtigeofkllldilaaGreatDoor
section
open Go.RowKit Go.Maps
structure mO (w:World):Prop where
 max:∃m:Int,w.cell? (ak 3 0)=some (ae m)
 kinds:bR w
 tab:Lib.TabIs prog w "strings.asciiSpace" .u8 Lib.asciiSpaceTab
theorem mO.later {w w':World} (h:mO w) (hb:aE w w'):mO w':=by
 obtain⟨m,hm⟩:=h.max
 refine⟨⟨m,?_⟩,h.kinds.later hb,gO h.tab (hb.block _ (kI h.tab))⟩
 have:=World.block_lt_of_cell? w _ hm
 exact(hb.cell (p:=(ak 3 0)) this).trans hm
theorem vQ (t:dq):(bC t)[0]?=some (ae t.kind)/\(bC t)[1]?=some (ae t.line)/\(bC t)[2]?=some (ae t.n)/\(bC t)[3]?=some (af t.s)/\(bC t)[4]?=some (.bool t.opn)/\(bC t)[5]?=some (.bool t.tight):=⟨rfl,rfl,rfl,rfl,rfl,rfl⟩
theorem qW {w:World} {B n c:Nat} {A:Option Addr} {ts:List dq} (h:aS w B 139 6 bC (.slice A n c) ts):fg w w.heap.size A n ts:=by
 refine⟨h.len.symm,fun i t ht=>?_⟩
 have hne:ts≠[]:=by intro e;rw[e]at ht;cases ht
 obtain⟨g,cap,e1,_,hg,_,hc⟩:=h.cells uo hne
 injection e1 with e1 e2 e3
 obtain⟨q0,q1,q2,q3,q4,q5⟩:=vQ t
 have k0:=(hc i t ht 0 _ q0).1
 have k1:=(hc i t ht 1 _ q1).1
 have k2:=(hc i t ht 2 _ q2).1
 have k3:=(hc i t ht 3 _ q3).1
 have k4:=(hc i t ht 4 _ q4).1
 have k5:=(hc i t ht 5 _ q5).1
 refine⟨g,0,e1,hg,?_,?_,?_,?_,?_,?_⟩<;>simp only[Nat.zero_add]
 ·exact k0
 ·exact k1
 ·exact k2
 ·exact k3
 ·exact k4
 ·exact k5
def BX:List UInt8:=[112,40,49,41,46,32,112,40,50,41,46]
def Ck:List UInt8:=[112,40,88,41,32,46]
def DN:List dq:=[⟨1,1,0,[112],true,false⟩,⟨6,1,0,[40],false,true⟩,⟨3,1,1,[],false,true⟩,⟨6,1,0,[41],false,true⟩,⟨7,1,0,[],false,true⟩,
 ⟨1,1,0,[112],true,false⟩,⟨6,1,0,[40],false,true⟩,⟨3,1,2,[],false,true⟩,⟨6,1,0,[41],false,true⟩,⟨7,1,0,[],false,true⟩,⟨0,1,0,[],false,false⟩]
def xm:List dq:=[⟨1,1,0,[112],true,false⟩,⟨6,1,0,[40],false,true⟩,⟨4,1,0,[88],false,true⟩,⟨6,1,0,[41],false,true⟩,⟨7,1,0,[],false,false⟩,⟨0,1,0,[],false,false⟩]
def D6:dq:=⟨0,1,0,[],false,false⟩
def gF (T:List UInt8):List dq×Int×Int:=(if T=BX then DN else if T=Ck then xm else[D6],0,0)
abbrev tD (T:List UInt8):Prop:=T=[]\/T=Ck\/T=BX
theorem BU:gF BX=(DN,0,0):=by rfl
theorem BY:gF Ck=(xm,0,0):=by rfl
theorem zj:gF []=([D6],0,0):=by rfl
def C7 (T:List UInt8) (k:Nat):Prop:=k=T.length\/(k<T.length/\∃t,nN (T.drop k) t)
def Fc (T:List UInt8) (a k:Nat):Prop:=(k=a/\C7 T a)\/(k=a+1/\a<T.length/\(T.drop a=[32,46]\/T.drop a=[32,112,40,50,41,46])/\C7 T k)
def AX (T:List UInt8) (a:Nat):Nat:=(T.take a).countP (fun c=>decide (c≠32))
def rR (T:List UInt8) (a:Nat):Prop:=a=0\/T[a-1]?≠some 32
def E6 (T:List UInt8) (a:Nat):Prop:=∃k,Fc T a k/\((k=T.length/\(gF T).1=(gF T).1.take (AX T a)++[D6])∨
 (k<T.length/\rR T (k+1)/\∃t,nN (T.drop k) t/\t.len=1/\(gF T).1.take (AX T (k+1))=(gF T).1.take (AX T a)++[⟨t.kind,1,t.n,t.s,oU T (k+1),tight ((gF T).1.take (AX T a)) k a⟩]))
theorem vn {T:List UInt8} (hT:tD T) (a:Nat) (ha:a<=T.length):lC ((T.drop a).take 1)=0:=by
 rcases hT with rfl|rfl|rfl
 ·obtain rfl:a=0:=by simpa using ha
  rfl
 ·rcases(by have:a<=6:=ha;omega:a=0\/a=1\/a=2\/a=3\/a=4\/a=5\/a=6)with rfl|rfl|rfl|rfl|rfl|rfl|rfl<;>rfl
 ·rcases(by have:a<=11:=ha;omega:a=0\/a=1\/a=2\/a=3\/a=4\/a=5\/a=6\/a=7\/a=8\/a=9\/a=10\/a=11)with rfl|rfl|rfl|rfl|rfl|rfl|rfl|rfl|rfl|rfl|rfl|rfl<;>rfl
theorem Ec {T:List UInt8} (hT:tD T) (a:Nat) (ha:a<=T.length) (hh:rR T a):E6 T a:=by
 rcases hT with rfl|rfl|rfl
 ·obtain rfl:a=0:=by simpa using ha
  exact⟨0,.inl ⟨rfl,.inl rfl⟩,.inl ⟨rfl,rfl⟩⟩
 ·rcases(by have:a<=6:=ha;omega:a=0\/a=1\/a=2\/a=3\/a=4\/a=5\/a=6)with rfl|rfl|rfl|rfl|rfl|rfl|rfl
  all_goals
   first
    |exact absurd hh (by unfold rR;decide)
    |exact⟨_,.inl ⟨rfl,.inl rfl⟩,.inl ⟨rfl,rfl⟩⟩
    |exact⟨_,.inl ⟨rfl,.inr ⟨by decide,_,by constructor⟩⟩,.inr ⟨by decide,.inr (by decide),_,by constructor,rfl,rfl⟩⟩
    |exact⟨_,.inr ⟨rfl,by decide,.inl rfl,.inr ⟨by decide,_,by constructor⟩⟩,.inr ⟨by decide,.inr (by decide),_,by constructor,rfl,rfl⟩⟩
 ·rcases(by have:a<=11:=ha;omega:a=0\/a=1\/a=2\/a=3\/a=4\/a=5\/a=6\/a=7\/a=8\/a=9\/a=10\/a=11)with rfl|rfl|rfl|rfl|rfl|rfl|rfl|rfl|rfl|rfl|rfl|rfl
  all_goals
   first
    |exact absurd hh (by unfold rR;decide)
    |exact⟨_,.inl ⟨rfl,.inl rfl⟩,.inl ⟨rfl,rfl⟩⟩
    |exact⟨_,.inl ⟨rfl,.inr ⟨by decide,_,by constructor⟩⟩,.inr ⟨by decide,.inr (by decide),_,by constructor,rfl,rfl⟩⟩
    |exact⟨_,.inr ⟨rfl,by decide,.inr rfl,.inr ⟨by decide,_,by constructor⟩⟩,.inr ⟨by decide,.inr (by decide),_,by constructor,rfl,rfl⟩⟩
open Go.RowKit
theorem Er (w:World) {s:List UInt8} {t:fl} (h:nN s t):Calls prog 219 #[af s,.string ⟨#[47,42]⟩] w fun e w'=>e=.returned (.bool false)/\w'=w:=by
 cases h
 all_goals
  go_enter func219,ntmps219
  go_wp2_with fail
  go_ret
  exact⟨by kernel_rfl,rfl⟩
theorem FI (w:World) {s:List UInt8} {t:fl} (h:nN s t):Calls prog 119 #[af s,.string ⟨#[47,42]⟩] w fun e w'=>e=.returned (.bool false)/\w'=w:=by
 have HS:=ad (Er w h)
 clear h
 go_enter func119,ntmps119
 go_wp2_with fail
 refine HS.mono ?_
 rintro e w1 ⟨rfl,rfl⟩
 go_wp2_with fail
 go_ret
 exact⟨rfl,rfl⟩
theorem D4 (w:World) (bx:Nat) (T:List UInt8) (a en:Nat) (v:Value) (h:bk w bx T a 1 en v) (k:Nat) (hk:Fc T a k) (hT:T.length<=100) (h10:lC ((T.drop a).take 1)=0):
 Calls prog 52 #[ah bx] w fun e w'=>e=.returned (.bool true)/\bk w' bx T k 1 en v/\Fr (·=bx) w w':=by
 refine aa fun P hP=>?_
 have HP:=ad hP
 have HT:=ad (aD hT h10)
 have H0:Hid (Fc T a k/\bk w bx T a 1 en v/\Fr (·=bx) w w):=ad ⟨hk,h,Fr.refl _ _⟩
 clear hP h hk hT h10
 go_enter func52,ntmps52
 go_wp2_with fail
 go_loopg [] (k+1-a) (fun n wr=>∃p,n=k+1-p/\Hid (Fc T p k/\bk wr bx T p 1 en v/\Fr (·=bx) w wr/\(p=k\/p=a)))
 case atStart=>exact⟨a,rfl,ad ⟨H0.1,H0.2.1,H0.2.2,.inr rfl⟩⟩
 case round=>
  obtain⟨p,rfl,HI⟩:=hrel
  clear H0
  obtain⟨c0,c1,-,-,-,cf⟩:=HI.2.1.cells
  have hdr:∀n,bk (wr.drewN n) bx T p 1 en v/\Fr (·=bx) w (wr.drewN n):=fun n=>⟨HI.2.1.drewN n,HI.2.2.1.trans ⟨rfl,rfl,rfl,aC,fun _ _ _=>rfl⟩⟩
  have HD2:Hid (∀n m,bk ((wr.drewN n).drewN m) bx T p 1 en v/\Fr (·=bx) w ((wr.drewN n).drewN m)):=ad fun n m=>⟨(hdr n).1.drewN m,(hdr n).2.trans ⟨rfl,rfl,rfl,aC,fun _ _ _=>rfl⟩⟩
  have HDR:=ad hdr
  clear hdr
  rcases HI.1 with⟨e1,hAt⟩|⟨e1,hlt,hbl,hAt⟩
  ·have hpe:p=k:=e1.symm
   subst hpe
   clear e1
   rcases hAt with he|⟨hlt,t,hs⟩
   ·have hne:¬(p:Int)<(T.length:Int):=by omega
    clear he
    go_wp2_with fail
    go_quiet (fail)
    have HQ:Hid (P (.returned (.bool true)) (wr.drewN nq)):=ad (by rw[HP.out];exact⟨rfl,HDR.out nq⟩)
    go_wp2_with fail
    exact HQ.out
   ·have hlt':(p:Int)<(T.length:Int):=by omega
    have hp0:(0:Int)<=(p:Int):=by omega
    have hp1:(p:Int)<=(T.length:Int):=by omega
    have hsl:=ld T p
    have HS:=ad hs
    generalize T.drop p=S at*
    clear hlt hs
    go_wp2_with fail
    go_quiet (fail)
    go_wp2_with fail
    go_quiet (fail)
    generalize hW:World.drewN _ _=W
    have HQ:Hid (P (.returned (.bool true)) W):=ad (by
     rw[HP.out,<-hW]
     exact⟨rfl,HD2.out _ _⟩)
    have HHP:=ad (FI W HS.out)
    have hs:=HS.out
    clear hW HS HI HDR HD2 HT hsl c0 c1 cf
    cases hs
    all_goals
     go_wp2_with fail
     first
      |refine(cr _ _ 2 (by decide)).mono ?_
      |refine(cr _ _ 3 (by decide)).mono ?_
      |refine(cr _ _ 4 (by decide)).mono ?_
      |refine(cr _ _ 7 (by decide)).mono ?_
      |refine(cr _ _ 5 (by decide)).mono ?_
     rintro y w1 ⟨rfl,rfl⟩
     go_wp2_with fail
     refine HHP.mono ?_
     rintro y w1 ⟨rfl,rfl⟩
     go_wp2_with fail
     exact HQ.out
  ·have hpa:p=a:=by rcases HI.2.2.2 with h|h<;>omega
   subst hpa
   have hlt':(p:Int)<(T.length:Int):=by omega
   have hp0:(0:Int)<=(p:Int):=by omega
   have hp1:(p:Int)<=(T.length:Int):=by omega
   have hsl:=ld T p
   have HTO:Hid (∀W,bk W bx T p 1 en v->Calls prog 117 #[ah bx,ae 1] W fun e w'=>e=am/\bk w' bx T (p+1) 1 en v/\Fr (·=bx) W w'):=ad fun W hW=>by
    have:=Be W bx T p 1 en v hW 1 1 rfl (by omega) (by have:=HT.1;omega) (by decide)
    rwa[HT.2]at this
   have HE:=ad (aD e1 hAt)
   generalize T.drop p=S at*
   clear hlt e1 hAt
   rcases hbl with rfl|rfl
   all_goals
    go_wp2_with fail
    go_quiet (fail)
    go_wp2_with fail
    go_quiet (fail)
    generalize hW:World.drewN _ _=W
    have HW:Hid (bk W bx T p 1 en v/\Fr (·=bx) w W):=ad (by
     rw[<-hW]
     exact HD2.out _ _)
    clear hW HI HDR HD2 hsl c0 c1 cf
    go_wp2_with fail
    refine(cr _ _ 1 (by decide)).mono ?_
    rintro y w1 ⟨rfl,rfl⟩
    go_wp2_with fail
    refine(HTO.out _ HW.1).mono ?_
    rintro y w2 ⟨rfl,k1,k2⟩
    have HN:=ad (aD k1 (HW.2.trans k2))
    clear k1 k2
    go_wp2_with fail
    go_roundg (k+1-(p+1))
    case rel=>exact⟨p+1,rfl,ad ⟨.inl ⟨HE.1,HE.1▸HE.2⟩,HN.1,HN.2,.inl HE.1.symm⟩⟩
    case measure=>have:=HE.1;omega
theorem xL (a b c:Int) (d:ByteArray) (e f:Bool) (w:World):(Instr.field 139 (.agg #[ae a,ae b,ae c,.string d,.bool e,.bool f]) 0).run prog w=.ok (ae a) w:=by kernel_rfl
def DY (k:Nat):cI:=(AJ k).want 1200
def vX (k:Nat):cI:=(((DY k).go 1).go 1).await ⟨2,0,[112],0,[]⟩ 999
def D9 (k:Nat) (t:Tm) (c2:Int) (vs ns:List (List UInt8×Int)):cI:=({(vX k).go 1 with cnt:=c2,vars:=vs,names:=ns} :cI).done t 0
def vL (k:Nat) (t:Tm) (c2:Int) (vs ns:List (List UInt8×Int)):cI:=(({D9 k t c2 vs ns with wait:=[],most:=1200} :cI).go 1).done (.mk 4 0 [112] [t]) 0
def pF:ru:=⟨2,1200,[112],0,none,0,0⟩
structure Au (ts:List dq) (k:Nat):Prop where
 k0:(bg ts k).kind=1
 s0:(bg ts k).s=[112]
 o0:(bg ts k).opn=true
 p1:kK ts (k+1) 40=true
 p3:kK ts (k+3) 41=true
 k3:(bg ts (k+3)).kind=6
 n3:kK ts (k+3) 44=false
 k4:(bg ts (k+4)).kind=7
structure Bp (U wr:World) (rb bb mb:Nat) (v:jr):Prop where
 vb:v.vb=.map (some mb)
 bv:v.bv=.map (some bb)
 beg:aW wr bb kp (ww rb) kQ
 fr:Fr (fun q=>q=rb\/q=mb) U wr
theorem Bp.step {U wr w':World} {rb bb mb:Nat} {v v':jr} (h:Bp U wr rb bb mb v) (hf:Fr (fun q=>q=rb\/q=mb) wr w') (h1:v'.vb=v.vb) (h2:v'.bv=v.bv) (hbr:bb≠rb/\bb≠mb):Bp U w' rb bb mb v':=
 ⟨h1.trans h.vb,h2.trans h.bv,h.beg.keep (hf.block _ h.beg.lt fun e=>e.elim hbr.1 hbr.2),h.fr.trans hf⟩
def PI (U:World) (rb bb mb B k:Nat) (ts:List dq) (t:Tm) (c2:Int) (vs ns:List (List UInt8×Int)) (g:Nat) (wr:World):Prop:=
 ∃v,Bp U wr rb bb mb v∧
  ((g=3/\bU wr rb v ts (DY k) B/\ej wr rb v.wv []/\v.wv=aj/\dS wr mb []/\v.nv=aj)∨
   (g=2/\bU wr rb v ts (vX k) B/\ej wr rb v.wv [pF]/\dS wr mb []/\v.nv=aj)∨
   (g=1/\bU wr rb v ts (D9 k t c2 vs ns) B/\ej wr rb v.wv [pF]/\kU wr rb v.nv ns/\aI wr (fun _=>False) v.x t)∨
   (g=0/\bU wr rb v ts (vL k t c2 vs ns) B/\ej wr rb v.wv []/\kU wr rb v.nv ns/\aI wr (fun b=>U.heap.size<=b/\aR wr 27 b) v.x (.mk 4 0 [112] [t])))
theorem rd (W:World) (rb bb mb B k:Nat) (ts:List dq) (v0:jr) (t1:Tm) (c2:Int) (vs ns:List (List UInt8×Int)) (h:bU W rb v0 ts (AJ k) B) (hwv:v0.wv=aj) (hnv:v0.nv=aj) (hvb:v0.vb=.map (some mb)) (hbv:v0.bv=.map (some bb)) (hV:dS W mb []) (hM:aW W bb kp (ww rb) kQ) (hmr:mb≠rb) (hbr:bb≠rb/\bb≠mb) (hp:Au ts k)
 (hP:∀u v,bU u rb v ts (vX k) B->v.vb=.map (some mb)->v.bv=.map (some bb)->dS u mb []->aW u bb kp (ww rb) kQ->v.nv=aj->Calls prog 131 #[ah rb] u fun e u'=>
   e=am/\∃nv' x,bU u' rb {v with nv:=nv',x:=x} ts (D9 k t1 c2 vs ns) B/\kU u' rb nv' ns/\aI u' (fun _=>False) x t1/\Fr (fun q=>q=rb\/q=mb) u u'):
 Calls prog 62 #[ah rb] W fun e u'=>∃x v',e=.returned (aU x)/\bU u' rb v' ts (vL k t1 c2 vs ns) B/\kU u' rb v'.nv ns/\aI u' (aR u' 27) x (.mk 4 0 [112] [t1])/\Fr (fun q=>q=rb\/q=mb) W u':=by
 obtain⟨P,hPP⟩:∃P:Ending->World->Prop,P=fun e u'=>∃x v',e=.returned (aU x)/\bU u' rb v' ts (vL k t1 c2 vs ns) B/\kU u' rb v'.nv ns/\aI u' (aR u' 27) x (.mk 4 0 [112] [t1])/\Fr (fun q=>q=rb\/q=mb) W u':=⟨_,rfl⟩
 rw[<-hPP]
 have HPP:=ad hPP
 have HPT:=ad hp
 have HPR:=ad hP
 have HNE:=ad (aD hmr hbr)
 obtain⟨U,hU⟩:∃U,U=W.alloc (.cells #[ae 0,ae 0,ai,aj] 27):=⟨_,rfl⟩
 have hbU:aE W U:=by rw[hU];exact aB
 have hz:U.heap[W.heap.size]?=some (.cells #[ae 0,ae 0,ai,aj] 27 (0,0)):=by rw[hU];exact az
 have HU:=ad (aD (h.later hbU) (aD (show Bp U U rb bb mb v0 from⟨hvb,hbv,hM.keep (hbU.block _ hM.lt),Fr.refl _ _⟩) (aD (show dS U mb []from⟨hV.map.keep (hbU.block _ hV.map.lt),hV.ok⟩) (aD hwv hnv))))
 have HZ:=ad (aD hz (aD hbU (aD (show W.heap.size≠rb/\W.heap.size≠mb from⟨fun e=>by have:=h.blk.lt;omega,fun e=>by have:=hV.map.lt;omega⟩) h.blk.lt)))
 clear h hwv hnv hvb hbv hV hM hmr hbr hp hP hPP hbU hz
 go_enter func62,ntmps62
 go_upto_region 1 with fail
 rw[<-hU]
 clear hU
 go_wp2_with fail
 refine(sx U rb v0 ts (AJ k) B HU.1 1200).mono ?_
 rintro e w1 ⟨rfl,r1,rfl⟩
 have hf1:Fr (fun q=>q=rb\/q=mb) U ((U.setCell (ak rb 5) (ae 1200)).setCell (ak rb 6) (.bool false)):=((Fr.refl _ U).setCell (p:=(ak rb 5)) (.inl (.inl rfl)) _).setCell (p:=(ak rb 6)) (.inl (.inl rfl)) _
 have HI0:Hid (PI U rb bb mb B k ts t1 c2 vs ns 3 ((U.setCell (ak rb 5) (ae 1200)).setCell (ak rb 6) (.bool false))):=ad (by
  refine⟨v0,HU.2.1.step hf1 rfl rfl HNE.2,.inl ⟨rfl,r1,?_,HU.2.2.2.1,⟨HU.2.2.1.map.keep ?_,HU.2.2.1.ok⟩,HU.2.2.2.2⟩⟩
  ·rw[HU.2.2.2.1]
   exact aS.nil _ _ _ _ _
  ·rw[av _ _ _ _ HNE.1,av _ _ _ _ HNE.1])
 obtain⟨w1,hw1⟩:∃w1,w1=(U.setCell (ak rb 5) (ae 1200)).setCell (ak rb 6) (.bool false):=⟨_,rfl⟩
 rw[<-hw1]at HI0⊢
 clear r1 hf1 hw1
 go_wp2_with fail
 go_loopg [] 3 (fun g wr=>Hid (PI U rb bb mb B k ts t1 c2 vs ns g wr))
 case atStart=>exact HI0
 case round=>
  obtain⟨v,hE,hc⟩:=hrel.out
  clear HI0 hrel
  have HE:=ad hE
  clear hE
  rcases hc with⟨rfl,g1,g2,g3,g4,g5⟩|⟨rfl,g1,g2,g3,g4⟩|⟨rfl,g1,g2,g3,g4⟩|⟨rfl,g1,g2,g3,g4⟩
  ·have c6:wr.cell? (ak rb 6)=some (.bool false):=g1.blk.cell (i:=6) rfl
   have hrl:=g1.blk.lt
   have HC:Hid (Calls prog 131 #[ah rb] wr fun e u'=>e=am/\PI U rb bb mb B k ts t1 c2 vs ns 2 u'):=ad (by
    refine jN 59 wr rb bb v ts (DY k) B _ g1 HE.bv HE.beg (by rw[show(DY k).at'=k from rfl,HPT.k0];exact⟨by decide,by decide⟩) (by rw[show(DY k).at'=k from rfl,HPT.k0];decide) (.inr (.inr rfl)) (fun e w h=>h.1) fun W' hW'=>?_
    refine(vG W' rb v ts (DY k) B (g1.later hW') [] (aS.later g2 hW') (by simp) _ HPT.k0 HPT.s0 HPT.o0 HPT.p1).mono ?_
    rintro e u' ⟨rfl,wv',r1,r2,r3⟩
    have hf:Fr (fun q=>q=rb\/q=mb) wr u':=(Fr.of_below _ hW').trans (r3.mono fun q _ e=>e.elim .inl fun e=>by rw[g3]at e;cases e)
    refine⟨rfl,_,HE.step (v':= {v with wv:=wv'}) hf rfl rfl HNE.2,.inr (.inl ⟨rfl,r1,r2,⟨g4.map.keep ((r3.block mb (by have:=g4.map.lt;have:=hW'.size;omega) fun e=>e.elim HNE.1 fun e=>by rw[g3]at e;cases e).trans (hW'.block mb g4.map.lt)),g4.ok⟩,g5⟩)⟩)
   clear g1 g2 g3 g4 g5 HE
   go_wp2_with fail
   refine HC.mono ?_
   rintro e w2 ⟨rfl,hI⟩
   have HI:=ad hI
   clear hI c6 hrl HC
   go_wp2_with fail
   go_roundg 2
   case measure=>omega
   case rel=>exact HI
  ·have c6:wr.cell? (ak rb 6)=some (.bool false):=g1.blk.cell (i:=6) rfl
   have hrl:=g1.blk.lt
   have HC:Hid (Calls prog 131 #[ah rb] wr fun e u'=>e=am/\PI U rb bb mb B k ts t1 c2 vs ns 1 u'):=ad (by
    refine(HPR.out wr v g1 HE.vb HE.bv g3 HE.beg g4).mono ?_
    rintro e u' ⟨rfl,nv',x,r1,r2,r3,r4⟩
    refine⟨rfl,_,HE.step (v':= {v with nv:=nv',x:=x}) r4 rfl rfl HNE.2,.inr (.inr (.inl ⟨rfl,r1,aS.keep g2 fun q hq=>r4.block q (g2.lt q hq).2 fun e=>?_,r2,r3⟩))⟩
    rcases e with e|e
    ·have:=(g2.lt q hq).1;omega
    ·exact g3.map.ne (g2.ty hq) e.symm)
   clear g1 g2 g3 g4 HE
   go_wp2_with fail
   refine HC.mono ?_
   rintro e w2 ⟨rfl,hI⟩
   have HI:=ad hI
   clear hI c6 hrl HC
   go_wp2_with fail
   go_roundg 1
   case measure=>omega
   case rel=>exact HI
  ·have c6:wr.cell? (ak rb 6)=some (.bool true):=g1.blk.cell (i:=6) rfl
   have hrl:=g1.blk.lt
   have HG:=ad (aD g1 (aD g2 (aD g3 g4)))
   clear g1 g2 g3 g4
   go_wp2_with fail
   refine(jC wr rb v ts (D9 k t1 c2 vs ns) B HG.1 (by rw[show(D9 k t1 c2 vs ns).at'=k+3 from rfl,HPT.k3];decide) (by rw[show(D9 k t1 c2 vs ns).at'=k+3 from rfl,HPT.k3];decide) HPT.n3).mono ?_
   rintro e w2 ⟨rfl,hb2⟩
   have HC:Hid (Calls prog 133 #[ah rb] w2 fun e u'=>e=am/\PI U rb bb mb B k ts t1 c2 vs ns 0 u'):=ad (by
    have hr2:=aS.later HG.2.1 hb2
    refine(By w2 rb v ts (D9 k t1 c2 vs ns) B 1200 (HG.1.later hb2) hr2 (fun _=>False) (fun _ h=>h.elim) (HG.2.2.2.keep (fun _ h=>h) fun _ h=>h.elim) HPT.p3 HPT.n3).mono ?_
    rintro e u' ⟨rfl,wv',g,c,r1,r2,r3,r4⟩
    have hn2:=aS.later HG.2.2.1 hb2
    refine⟨rfl,_,HE.step (v':= {v with wv:=wv',x:=⟨4,0,[112],some (ak g 0),1,c⟩}) ((Fr.of_below _ hb2).trans (r4.weak fun q hq=>.inl hq)) rfl rfl HNE.2,.inr (.inr (.inr ⟨rfl,r1,r2,aS.keep hn2 fun q hq=>r4.block q (hn2.lt q hq).2 fun e=>?_,r3.keep (fun b hb=>hb.elim (fun h=>h.elim) fun h=>⟨Nat.le_trans (Nat.le_trans HE.fr.size hb2.size) h.1,h.2⟩) fun _ _=>rfl⟩))⟩
    have:=(hn2.lt q hq).1
    omega)
   obtain⟨A4,cap4,hsh⟩:=HG.2.1.shape
   have hrd:=HG.1.later hb2
   have c4:w2.cell? (ak rb 4)=some (.slice A4 1 cap4):=(hrd.blk.cell (i:=4) rfl).trans (congrArg some hsh)
   have hrl2:=hrd.blk.lt
   clear hb2 hsh hrd HE HG c6 hrl
   go_wp2_with fail
   refine HC.mono ?_
   rintro e w3 ⟨rfl,hI⟩
   have HI:=ad hI
   clear hI c4 hrl2 HC
   go_wp2_with fail
   go_roundg 0
   case measure=>omega
   case rel=>exact HI
  ·have c6:wr.cell? (ak rb 6)=some (.bool true):=g1.blk.cell (i:=6) rfl
   have hrl:=g1.blk.lt
   have HG:=ad (aD g1 (aD g2 (aD g3 g4)))
   clear g1 g2 g3 g4
   go_wp2_with fail
   refine(jC wr rb v ts (vL k t1 c2 vs ns) B HG.1 (by rw[show(vL k t1 c2 vs ns).at'=k+4 from rfl,HPT.k4];decide) (by rw[show(vL k t1 c2 vs ns).at'=k+4 from rfl,HPT.k4];decide) (by unfold kK;rw[show(vL k t1 c2 vs ns).at'=k+4 from rfl,HPT.k4];rfl)).mono ?_
   rintro e w2 ⟨rfl,hb2⟩
   obtain⟨A4,cap4,hsh⟩:=HG.2.1.shape
   have hrd:=HG.1.later hb2
   have c4:w2.cell? (ak rb 4)=some (.slice A4 0 cap4):=(hrd.blk.cell (i:=4) rfl).trans (congrArg some hsh)
   have hrl2:=hrd.blk.lt
   have HRD:=ad hrd
   have HB2:=ad hb2
   clear hb2 hsh hrd c6 hrl
   go_wp2_with fail
   refine(iE w2 rb v ts (vL k t1 c2 vs ns) B HRD.out 0 (by omega)).mono ?_
   rintro e w3 ⟨rfl,hb3⟩
   have hk4:=HPT.k4
   rw[show(vL k t1 c2 vs ns).at'+0=k+4 from rfl]
   obtain⟨p1,hp1⟩:∃p,p=bg ts (k+4):=⟨_,rfl⟩
   rw[<-hp1]at hk4⊢
   clear hp1
   obtain⟨tk,tl,tn,tst,top,tti⟩:=p1
   simp only at hk4
   subst hk4
   simp only[jm]
   have hK:=xL 7 tl tn ⟨tst.toArray⟩ top tti w3
   have hb23:=HB2.trans (hb3.mono HB2.size)
   have hr3:=HG.1.later hb23
   have hz3:w3.heap[W.heap.size]?=some (.cells #[ae 0,ae 0,ai,aj] 27 (0,0)):=(hb23.block _ (by have:=HE.fr.size;have:=(ap HZ.1).1;omega)).trans ((HE.fr.block _ (ap HZ.1).1 fun e=>e.elim HZ.2.2.1.1 HZ.2.2.1.2).trans HZ.1)
   obtain⟨z0,z1,z2,z3,zf⟩:=aH hz3
   have d7:w3.cell? (ak rb 7)=some (ae v.x.k):=hr3.blk.cell (i:=7) rfl
   have d8:w3.cell? (ak rb 8)=some (ae v.x.n):=hr3.blk.cell (i:=8) rfl
   have d9:w3.cell? (ak rb 9)=some (af v.x.s):=hr3.blk.cell (i:=9) rfl
   have d10:w3.cell? (ak rb 10)=some (.slice v.x.A v.x.len v.x.cap):=hr3.blk.cell (i:=10) rfl
   have hrl3:=hr3.blk.lt
   have hzl:=(ap hz3).1
   have hzr:=HZ.2.2.1.1
   have HQ:Hid (P (.returned (aU v.x)) ((((w3.setCell (ak W.heap.size 0) (ae v.x.k)).setCell (ak W.heap.size 1) (ae v.x.n)).setCell (ak W.heap.size 2) (af v.x.s)).setCell (ak W.heap.size 3) (.slice v.x.A v.x.len v.x.cap))):=ad (by
    have hn3:=aS.later HG.2.2.1 hb23
    have hk:∀q,q≠W.heap.size->((((w3.setCell (ak W.heap.size 0) (ae v.x.k)).setCell (ak W.heap.size 1) (ae v.x.n)).setCell (ak W.heap.size 2) (af v.x.s)).setCell (ak W.heap.size 3) (.slice v.x.A v.x.len v.x.cap)).heap[q]?=w3.heap[q]?:=fun q hq=>aM _ _ _ _ hq
    have hxx:=HG.2.2.2.keep (w':=w3) (S':=fun b=>U.heap.size<=b/\aR w3 27 b) (fun b hb=>⟨hb.1,hb.2.keep (hb23.block b hb.2.lt)⟩) fun b hb=>hb23.block b hb.2.lt
    have hnU:∀b,U.heap.size<=b->b≠W.heap.size:=fun b hb e=>by have:=(ap HZ.1).1;omega
    have hzw:=HZ.2.1.size
    have hF:Fr (fun q=>q=rb\/q=mb) W w3:=(Fr.of_below _ HZ.2.1).trans (HE.fr.step hb23)
    rw[HPP.out]
    exact⟨v.x,v,rfl,hr3.keep (hk rb (Ne.symm hzr)) (fun q hq=>hk q (by have:=hr3.base;have:=HZ.2.2.2;omega)),aS.keep hn3 (fun q hq=>hk q ((hn3.ty hq).ne ⟨_,hz3⟩ (by decide))),hxx.keep (fun b hb=>hb.2.keep (hk b (hnU b hb.1))) (fun b hb=>hk b (hnU b hb.1)),
     (((hF.setCell (p:=(ak W.heap.size 0)) (.inr aC) _).setCell (p:=(ak W.heap.size 1)) (.inr aC) _).setCell (p:=(ak W.heap.size 2)) (.inr aC) _).setCell (p:=(ak W.heap.size 3)) (.inr aC) _⟩)
   have HF:=ad (bc hz3 rfl (ae v.x.k) (ae v.x.n) (af v.x.s) (.slice v.x.A v.x.len v.x.cap))
   obtain⟨WF,hWF⟩:∃WF,WF=((((w3.setCell (ak W.heap.size 0) (ae v.x.k)).setCell (ak W.heap.size 1) (ae v.x.n)).setCell (ak W.heap.size 2) (af v.x.s)).setCell (ak W.heap.size 3) (.slice v.x.A v.x.len v.x.cap)):=⟨_,rfl⟩
   rw[<-hWF]at HQ HF
   have HWF:=ad hWF
   clear hWF hb3 hb23 hr3 hz3 HE HG c4 hrl2
   go_wp2_with fail
   rw[<-HWF.out]
   obtain⟨f0,f1,f2,f3,-⟩:=aH HF.out
   exact bodyPost_ret (v:=aU v.x) (by simp[results,results62,go_sem,f0,f1,f2,f3,aU]) rfl HQ.out
theorem sZ {a:Tm} (ha:a.may=true):(Tm.mk 4 0 [112] [a]).may=true:=by
 simp[Tm.may,Tm.mays,eR,ha]
theorem yW (w:World) (A:Option Addr) (n c:Nat) (ts:List dq) (hT:fg w w.heap.size A n ts) (hf:ts.length<=20000) (k bt:Nat) (z:Int) (hp:Au ts k) (hk:(bg ts (k+2)).kind=3) (hz:(bg ts (k+2)).n=z) (h0:0<=z):
 Calls prog 25 #[.slice A n c,ae (k:Nat),ah bt] w fun e w'=>jd w w' (⟨.mk 4 0 [112] [iv z],[],(bg ts k).line,((k+4:Nat):Int)+1⟩,0) e:=by
 have hkl:=kB (ts:=ts) (i:=k) (by rw[hp.k0];decide)
 have hkl2:=kB (ts:=ts) (i:=k+2) (by rw[hk];decide)
 refine sE w A n c ts hT hf k hkl (by rw[hp.k0];decide) bt (vL k (iv z) 0 [] []) ⟨sZ (by simp[iv,Tm.may,Tm.mays,eR]),by simp[vL,cI.done,iv,Tm.size,Tm.sizes]⟩ fun W rb bb mb hb h hV hM h1 h2 h3=>?_
 refine rd W rb bb mb (w.heap.size+3) k ts _ (iv z) 0 [] [] h rfl rfl rfl rfl hV hM (by omega) ⟨by omega,by omega⟩ hp fun u v g1 g2 g3 g4 g5 g6=>?_
 refine jN 55 u rb bb v ts (vX k) (w.heap.size+3) _ g1 g3 g5 (by rw[show(vX k).at'=k+2 from rfl,hk];exact⟨by decide,by decide⟩) (by rw[show(vX k).at'=k+2 from rfl,hk];decide) (.inl rfl) (fun e w h=>h.1) fun W' hW'=>?_
 refine(sX W' rb v ts (vX k) (w.heap.size+3) (g1.later hW') _ hkl2).mono ?_
 rintro e u' ⟨r1,r2⟩
 rw[show(vX k).at'=k+2 from rfl,hz,if_neg (by omega)]at r2
 obtain⟨rfl,r2⟩:=r2
 exact⟨rfl,v.nv,_,r2,by rw[g6];exact aS.nil _ _ _ _ _,.leaf _ _ _ _ _ _ _ (Nat.zero_le _),(Fr.of_below _ hW').trans (r1.weak fun q hq=>.inl hq)⟩
theorem zu (w:World) (A:Option Addr) (n c:Nat) (ts:List dq) (hT:fg w w.heap.size A n ts) (hf:ts.length<=20000) (k bt:Nat) (hp:Au ts k) (hk:(bg ts (k+2)).kind=4) (hs:(bg ts (k+2)).s=[88]):
 Calls prog 25 #[.slice A n c,ae (k:Nat),ah bt] w fun e w'=>jd w w' (⟨.mk 4 0 [112] [jk 0],[([88],0)],(bg ts k).line,((k+4:Nat):Int)+1⟩,0) e:=by
 have hkl:=kB (ts:=ts) (i:=k) (by rw[hp.k0];decide)
 have hkl2:=kB (ts:=ts) (i:=k+2) (by rw[hk];decide)
 refine sE w A n c ts hT hf k hkl (by rw[hp.k0];decide) bt (vL k (jk 0) 1 [([88],0)] [([88],0)]) ⟨sZ (by decide),by simp[vL,cI.done,jk,Tm.size,Tm.sizes]⟩ fun W rb bb mb hb h hV hM h1 h2 h3=>?_
 refine rd W rb bb mb (w.heap.size+3) k ts _ (jk 0) 1 [([88],0)] [([88],0)] h rfl rfl rfl rfl hV hM (by omega) ⟨by omega,by omega⟩ hp fun u v g1 g2 g3 g4 g5 g6=>?_
 refine jN 56 u rb bb v ts (vX k) (w.heap.size+3) _ g1 g3 g5 (by rw[show(vX k).at'=k+2 from rfl,hk];exact⟨by decide,by decide⟩) (by rw[show(vX k).at'=k+2 from rfl,hk];decide) (.inr (.inl rfl)) (fun e w h=>h.1) fun W' hW'=>?_
 refine(vW W' rb v ts (vX k) (w.heap.size+3) (g1.later hW') (bg ts (k+2)) hkl2 mb g2 ⟨g4.map.keep (hW'.block _ g4.map.lt),g4.ok⟩ (by omega) h1 (by unfold DR;rw[hs];simp) (by rw[hs];decide) rfl (show(0:Int)<=0 by decide) (show(0:Int)<=1000000 by decide) (by rw[g6];exact aS.nil _ _ _ _ _) (by simp[vX,DY,AJ,cI.await,cI.again,cI.go,cI.want]) (by rw[g6];simp[Value.ownBlock])).mono ?_
 rintro e u' ⟨rfl,nv',r1,r2,r3,r4⟩
 rw[hs]at r1 r2
 exact⟨rfl,nv',_,r1,r2,.leaf _ _ _ _ _ _ _ (Nat.zero_le _),(Fr.of_below _ hW').trans (r4.mono fun q _ e=>e.elim .inl fun e=>e.elim .inr fun e=>by rw[g6]at e;cases e)⟩
structure vp (ts:List dq) (N:Nat):Prop where
 le:N<=2
 few:ts.length<=20000
 at':∀q,q<N->Au ts (5*q)/\(bg ts (5*q+2)).kind=3/\(bg ts (5*q+2)).n=((q+1:Nat):Int)
 fin:(bg ts (5*N)).kind=0
theorem CB:vp [⟨0,1,0,[],false,false⟩] 0:=⟨by decide,by decide,fun q h=>absurd h (Nat.not_lt_zero q),by rfl⟩
theorem Ed:vp DN 2:=⟨by decide,by decide,fun q h=>by
 obtain rfl|rfl:q=0\/q=1:=by omega
 ·exact⟨⟨by rfl,by rfl,by rfl,by rfl,by rfl,by rfl,by rfl,by rfl⟩,by rfl,by rfl⟩
 ·exact⟨⟨by rfl,by rfl,by rfl,by rfl,by rfl,by rfl,by rfl,by rfl⟩,by rfl,by rfl⟩,by rfl⟩
theorem Cw:Au xm 0:=⟨by rfl,by rfl,by rfl,by rfl,by rfl,by rfl,by rfl,by rfl⟩
end
end Go.Proofs.YtigeofkllldilaaGreatDoor
