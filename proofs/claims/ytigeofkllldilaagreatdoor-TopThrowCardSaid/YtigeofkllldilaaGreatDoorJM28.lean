import Derived.Test.YtigeofkllldilaaGreatDoorJM26
import Derived.Test.YtigeofkllldilaaGreatDoorJM20
set_option maxHeartbeats 32000000
set_option maxRecDepth 100000
set_option linter.unusedSectionVars false
open Go.Proofs.Tryz
namespace Go.Proofs.YtigeofkllldilaaGreatDoor
section
structure iF (t:Tm):Prop where
 may:t.may=true
 fits:t.fits=true
theorem o8:∀(l:List Tm),Tm.fitss l=true->∀x∈l,x.fits=true
 |a::l,h,x,hx=>by
  rw[Tm.fitss,Bool.and_eq_true]at h
  rcases List.mem_cons.1 hx with rfl|hx
  ·exact h.1
  ·exact o8 l h.2 x hx
theorem iF.n {t:Tm} (h:iF t):-9223372036854775808<=t.n/\t.n<=9223372036854775807:=by
 obtain⟨k,n,s,l⟩:=t
 have:=h.fits
 rw[Tm.fits,Bool.and_eq_true,decide_eq_true_eq]at this
 exact this.1
theorem iF.mem {t x:Tm} (h:iF t) (hx:x∈t.args):iF x:=by
 refine⟨(ph h.may).2 x hx,?_⟩
 obtain⟨k,n,s,l⟩:=t
 have:=h.fits
 rw[Tm.fits,Bool.and_eq_true]at this
 exact o8 l this.2 x hx
theorem iF.arg {t:Tm} (h:iF t) {i:Nat} (hi:i<t.args.length):iF (t.args.getD i aQ):=h.mem (by rw[List.getD_eq_getElem?_getD,au hi];exact List.getElem_mem hi)
theorem iF.kind {t:Tm} (h:iF t):t.k=1\/t.k=2\/t.k=3\/t.k=4:=(ph h.may).1
theorem iF.name {t:Tm} (h:iF t):t.s.length<=1000/\t.args.length<=255:=by
 obtain⟨k,n,s,l⟩:=t
 have h1:=h.may
 rw[Tm.may,Bool.and_eq_true]at h1
 have h1:=h1.1
 show s.length<=1000/\l.length<=255
 unfold eR at h1
 split at h1
 ·have:=of_decide_eq_true h1
  obtain⟨_,rfl,h3⟩:=this
  exact⟨Nat.zero_le _,by omega⟩
 ·split at h1
  ·have:=of_decide_eq_true h1
   obtain⟨rfl,h3⟩:=this
   exact⟨Nat.zero_le _,by omega⟩
  ·split at h1
   ·have:=of_decide_eq_true h1
    omega
   ·split at h1
    ·have:=of_decide_eq_true h1
     omega
    ·cases h1
theorem qG:∀(f:Nat) (t:Tm),iF t->(∀x∈(cQ f t).1,iF x)/\iF (cQ f t).2
 |0,t,h=>⟨fun x hx=>(by cases hx),h⟩
 |f+1,t,h=>by
  unfold cQ
  by_cases hc:dj t=true
  ·rw[if_pos hc]
   obtain⟨_,_,h3⟩:=dC hc
   obtain⟨i1,i2⟩:=qG f (t.args.getD 1 aQ) (h.arg (by omega))
   refine⟨fun x hx=>?_,i2⟩
   rcases List.mem_cons.1 hx with rfl|hx
   ·exact h.arg (by omega)
   ·exact i1 x hx
  ·rw[if_neg hc]
   exact⟨fun x hx=>(by cases hx),h⟩
theorem lm {t:Tm} (h:t.args.length=2):t.size=1+(t.args.getD 0 aQ).size+(t.args.getD 1 aQ).size:=by
 obtain⟨k,n,s,l⟩:=t
 have h:l.length=2:=h
 match l,h with
 |[a,b],_=>
  show 1+(a.size+(b.size+0))=1+a.size+b.size
  omega
theorem oW:∀(f:Nat) (t:Tm),Tm.sizes (cQ f t).1+(cQ f t).1.length+(cQ f t).2.size<=t.size
 |0,t=>by show 0+0+t.size<=_;omega
 |f+1,t=>by
  unfold cQ
  by_cases hc:dj t=true
  ·rw[if_pos hc]
   obtain⟨_,_,h3⟩:=dC hc
   have h1:=oW f (t.args.getD 1 aQ)
   have h2:=lm h3
   simp only[Tm.sizes,List.length_cons]
   omega
  ·rw[if_neg hc]
   show 0+0+t.size<=_
   omega
theorem xg {f:Nat} {t:Tm} (h:dj t=true) (hf:0<f):0<(cQ f t).1.length:=by
 obtain⟨f,rfl⟩:∃k,f=k+1:=⟨f-1,by omega⟩
 unfold cQ
 rw[if_pos h]
 exact Nat.succ_pos _
theorem vu:∀(k v:Nat),v<10^(k+1)->Lib.nDigits v<=k+1
 |0,v,hv=>by rw[Lib.nDigits_small (by omega)];omega
 |k+1,v,hv=>by
  by_cases hs:v<10
  ·rw[Lib.nDigits_small hs];omega
  ·rw[Lib.nDigits_big hs]
   have:=vu k (v/10) (by rw[Nat.pow_succ]at hv;omega)
   omega
theorem vz {n:Int} (h:-9223372036854775808<=n/\n<=9223372036854775807):(Lib.itoa n).length<=30:=by
 have hd:∀u:Nat,u<=9223372036854775808->(Lib.decDigits u).length<=21:=fun u hu=>by
  rw[Lib.decDigits_length]
  exact vu 20 u (by omega)
 unfold Lib.itoa
 split
 ·have:=hd n.natAbs (by omega)
  rw[List.length_cons]
  omega
 ·have:=hd n.toNat (by omega)
  omega
theorem gB (way:Int) {s:List UInt8} (h:s.length<=1000):(eu way s).length<=5002:=by
 have h5:∀c:UInt8,(ed c).length<=5:=fun c=>by
  unfold ed fQ
  (repeat' split)<;>simp
 have hf:∀l:List UInt8,(l.flatMap ed).length<=5*l.length:=fun l=>by
  induction l with
  |nil=>simp
  |cons c r ih=>
   rw[List.flatMap_cons,List.length_append,List.length_cons]
   have:=h5 c
   omega
 unfold eu
 split
 ·omega
 ·unfold sn yx
  split
  ·omega
  ·have:=hf s
   simp only[List.length_append,List.length_cons,List.length_nil]
   omega
section
variable {es:List (dh×dv)} {way:Int} {g:Tm->Int->List UInt8}
theorem gr:∀(l:List Tm),(∀t∈l,∀m,(g t m).length<=6000*t.size)->(bG g l).length<=6000*Tm.sizes l+l.length
 |[],_=>Nat.zero_le _
 |[t],h=>by
  have:=h t (by simp) 999
  simp only[bG,Tm.sizes,List.length_cons,List.length_nil]
  omega
 |t::u::r,h=>by
  have ih:=gr (u::r) (fun x hx=>h x (List.mem_cons_of_mem _ hx))
  have h1:=h t (by simp) 999
  simp only[bG,Tm.sizes,List.length_cons,List.length_append]at ih⊢
  omega
theorem ep (t:Tm) (h:∀m,(g t m).length<=6000*t.size) (o:sI) (same:Bool):(aZ es way g t o same).length<=6000*t.size+2:=by
 have h1:=h 1200
 unfold aZ
 split
 ·simp only[List.length_cons,List.length_append,List.length_nil]
  omega
 ·omega
theorem fu {t:Tm} (h:t.args.length=1):t.size=1+(t.args.getD 0 aQ).size:=by
 obtain⟨k,n,s,l⟩:=t
 have h:l.length=1:=h
 match l,h with
 |[a],_=>
  show 1+(a.size+0)=1+a.size
  omega
theorem lB {t:Tm} {o:sI} (hw:iF t) (ho:dY es way t=some o) (h:∀i,i<t.args.length->∀m,(g (t.args.getD i aQ) m).length<=6000*(t.args.getD i aQ).size):(bq es way g o t.args).length+900<=6000*t.size:=by
 obtain⟨o1,o2,o3⟩:=oB ho
 have ht:=gB way (s:=o.name) (by rw[o1];exact hw.name.1)
 unfold bq
 rcases o3 with⟨hs,hl⟩|⟨hs,hl⟩
 ·have h0:=ep (es:=es) (way:=way) (t.args.getD 0 aQ) (h 0 (by omega)) o false
  have h2:=fu hl
  rcases hs with hs|hs
  ·rw[if_pos hs]
   simp only[List.length_append,List.length_cons]
   omega
  ·have n1:¬o.side=1:=by omega
   rw[if_neg n1,if_pos hs]
   simp only[List.length_append,List.length_cons]
   omega
 ·have n1:¬o.side=1:=by omega
  have n3:¬o.side=3:=by omega
  have h0:=ep (es:=es) (way:=way) (t.args.getD 0 aQ) (h 0 (by omega)) o o.left
  have h1:=ep (es:=es) (way:=way) (t.args.getD 1 aQ) (h 1 (by omega)) o o.right
  have h2:=lm hl
  rw[if_neg n1,if_neg n3]
  split
  ·simp only[List.length_append,List.length_cons,List.length_nil]
   omega
  ·simp only[List.length_append,List.length_cons,List.length_nil]
   omega
theorem BD (t:Tm) (most:Int) (hw:iF t) (h:∀x:Tm,x.size<t.size->iF x->∀m,(g x m).length<=6000*x.size):(fK es way g t most).length<=6000*t.size:=by
 have hp:=bL t
 have hn:=vz hw.n
 have ha:∀x∈t.args,∀m,(g x m).length<=6000*x.size:=fun x hx=>h x (by have h1:=dD t.args x hx;have h2:=bE t;omega) (hw.mem hx)
 have hd:∀i,i<t.args.length->∀m,(g (t.args.getD i aQ) m).length<=6000*(t.args.getD i aQ).size:=fun i hi=>h _ (dZ hi) (hw.arg hi)
 have ht:=gB way hw.name.1
 have hl:=hw.name.2
 have hsz:=bE t
 unfold fK
 split
 ·rw[List.length_cons];omega
 ·split
  ·omega
  ·split
   ·omega
   ·unfold eW
    split
    ·rename_i hc
     obtain⟨i1,_,i3⟩:=jW t.size t
     obtain⟨w1,w2⟩:=qG t.size t hw
     have h1:=gr (g:=g) (cQ t.size t).1 (fun x hx=>h x (i1 x hx) (w1 x hx))
     have h2:=h _ (i3 hc hp) w2 999
     have h3:=oW t.size t
     have h4:=xg hc hp
     unfold lM ju
     simp only[List.length_cons,List.length_append,List.length_nil]
     split
     ·simp only[List.length_nil];omega
     ·simp only[List.length_cons];omega
    ·split
     ·rename_i hb
      have h1:=hd 0 (by omega) 1200
      have h2:=fu hb.2.2
      simp only[List.length_cons,List.length_append,List.length_nil]
      omega
     ·split
      ·have h1:=gr (g:=g) t.args ha
       simp only[List.length_cons,List.length_append,List.length_nil]
       omega
      ·rename_i o ho
       have h1:=lB (g:=g) hw ho hd
       split
       ·simp only[List.length_cons,List.length_append,List.length_nil]
        omega
       ·omega
end
theorem fZ (es:List (dh×dv)) (way:Int):∀(n:Nat) (t:Tm) (m:Int),t.size<=n->iF t->(gM es way t m).length<=6000*t.size
 |0,t,_,h,_=>by have:=bL t;omega
 |n+1,t,m,h,hw=>by
  rw[iz]
  exact BD t m hw fun x hx hwx m=>fZ es way n x m (by omega) hwx
end
section
open Go.RowKit Go.Maps
theorem Cg:∃i,prog.info? 5=some i/\i.zero=some (.int .u8 0)/\i.size=1/\i.bytes=1:=by
 refine⟨_,rfl,?_,?_,?_⟩<;>kernel_rfl
theorem pu (s:List UInt8):Lib.strCells ⟨s.toArray⟩=s.flatMap bK:=by
 unfold Lib.strCells
 simp only
 induction s with
 |nil=>rfl
 |cons c r ih=>
  rw[List.flatMap_cons]
  simp only[List.map_cons]at ih⊢
  rw[ih]
  rfl
def gj (wb:Nat):Value:=.func (.func 27) #[ah wb] #[]
structure cw (u:World) (B wb bt:Nat) (way:Int) (acc:List UInt8):Prop where
 blk:∃A c,u.heap[wb]?=some (.cells #[.slice A acc.length c,ae way,ah bt,gj wb] 79 (0,0))/\aS u B 5 1 bK (.slice A acc.length c) acc
 wbB:wb<B
def bJ (u:World) (B wb k:Nat):Prop:=k=wb\/(B<=k/\aR u 5 k)
section
variable {u u' u'':World} {B wb bt:Nat} {way:Int} {acc:List UInt8}
theorem cw.lt (h:cw u B wb bt way acc):wb<u.heap.size:=by
 obtain⟨A,c,k1,_⟩:=h.blk
 exact(ap k1).1
theorem cw.later (h:cw u B wb bt way acc) (hb:aE u u'):cw u' B wb bt way acc:=by
 obtain⟨A,c,k1,k2⟩:=h.blk
 exact⟨⟨A,c,(hb.block _ (ap k1).1).trans k1,k2.later hb⟩,h.wbB⟩
theorem bJ.trans (h:Fr (bJ u B wb) u u') (k:Fr (bJ u' B wb) u' u''):Fr (bJ u B wb) u u'':=
 ⟨k.os.trans h.os,k.tape.trans h.tape,k.output.trans h.output,Nat.le_trans h.size k.size,fun i hi hn=>by
  refine(k.block i (Nat.lt_of_lt_of_le hi h.size) fun e=>hn ?_).trans (h.block i hi hn)
  rcases e with e|⟨e1,cs,e2⟩
  ·exact .inl e
  ·rw[h.block i hi hn]at e2
   exact .inr ⟨e1,cs,e2⟩⟩
theorem bJ.step (h:Fr (bJ u B wb) u u') (k:aE u' u''):Fr (bJ u B wb) u u'':=h.step k
theorem bJ.off {t:TypeId} {k:Nat} (h:aR u t k) (ht:t≠5) (hk:k≠wb):¬bJ u B wb k:=by
 rintro(e|⟨_,e⟩)
 ·exact hk e
 ·exact h.ne e ht rfl
theorem bJ.low {B0 k:Nat} (h1:B0<=wb) (h2:B0<=B) (hk:k<B0):¬bJ u B wb k:=by
 rintro(e|⟨e,_⟩)<;>omega
theorem bJ.below {B0:Nat} (h:Fr (bJ u B wb) u u') (h1:B0<=wb) (h2:B0<=B) (h3:B0<=u.heap.size):Below B0 u u':=h.below h3 fun _ hk=>bJ.low h1 h2 hk
theorem bJ.keep {cs:Array Value} {t:TypeId} {k:Nat} (h:Fr (bJ u B wb) u u') (hk:u.heap[k]?=some (.cells cs t (0,0))) (ht:t≠5) (hne:k≠wb):u'.heap[k]?=some (.cells cs t (0,0)):=
 (h.block k (ap hk).1 (bJ.off ⟨_,hk⟩ ht hne)).trans hk
end
theorem cM (u:World) (B wb bt:Nat) (way:Int) (acc s:List UInt8) (h:cw u B wb bt way acc) (hB:B<=u.heap.size) (hl:acc.length+s.length<=100000000000):
 Calls prog 27 #[ah wb,af s] u fun e u'=>e=am/\cw u' B wb bt way (acc++s)/\Fr (bJ u B wb) u u':=by
 obtain⟨A,c,hb,hr⟩:=h.blk
 obtain⟨i0,hi,hz0,hz1,hz2⟩:=Cg
 have hlt:=h.lt
 have hsz:(⟨s.toArray⟩:ByteArray).size=s.length:=by simp[ByteArray.size]
 have c0:u.cell? (ak wb 0)=some (.slice A acc.length c):=by rw[cell_of_row u wb 0 _ _ (0,0) hb];rfl
 have HR:=ad hr
 have HB:=ad hb
 have HW:=ad h.wbB
 have HL:=ad hl
 have HBu:=ad hB
 have HSZ:=ad hsz
 clear hr hb h hsz hl hB
 go_enter func27,ntmps27
 go_wp2_with (at_builtin;refine Lib.wpList_append_own_string _ rfl _ _ 76 9 rfl B 5 i0 underlying76 underlying9 hi hz0 hz1 hz2 _ _ _ rfl HR.own ⟨s.toArray⟩ rfl ?c3 ?c4 ?c5 ?_)
 case c3=>have:=HL.out;rw[HSZ.out];unfold maxLen;omega
 case c4=>have:=HL.out;rw[HSZ.out];omega
 case c5=>exact HBu.out
 intro v' w2 hown' hgrow _
 rw[pu,<-List.flatMap_append,<-List.length_append]at hown'
 have hrow:aS w2 B 5 1 bK v' (acc++s):=⟨hown'⟩
 obtain⟨A2,c2,rfl⟩:=hrow.shape
 have hne:∀g,(Value.slice A acc.length c).ownBlock=some g->bJ u B wb g:=fun g hg=>.inr ⟨(HR.lt g hg).1,HR.ty hg⟩
 have hF:Fr (bJ u B wb) u w2:=(Fr.refl (bJ u B wb) u).grown hgrow fun g e=>.inl (hne g e)
 have hb2:w2.heap[wb]?=some (.cells #[.slice A acc.length c,ae way,ah bt,gj wb] 79 (0,0)):=by
  rw[hgrow.block wb hlt (fun e=>by have h1:=(HR.lt wb e.symm).1;have h2:=HW.out;omega)]
  exact HB.out
 have d0:w2.cell? (ak wb 0)=some (.slice A acc.length c):=by rw[cell_of_row w2 wb 0 _ _ (0,0) hb2];rfl
 have df:w2.frozen? ⟨wb,0,none⟩=false:=by simp[World.frozen?,hb2]
 have hW6:cw (w2.setCell (ak wb 0) (.slice A2 (acc++s).length c2)) B wb bt way (acc++s):=by
  refine⟨⟨A2,c2,aK hb2 _,hrow.away _ fun k hk=>?_⟩,HW.out⟩
  have h1:=(hrow.lt k hk).1
  have h2:=HW.out
  simp only
  omega
 have HW6:=ad hW6
 have HF6:=ad (hF.setCell (p:=(ak wb 0)) (.inl (.inl rfl)) (.slice A2 (acc++s).length c2))
 clear hown' hrow hne hF hb2 hW6 hgrow c0
 generalize (acc++s).length=m5 at HW6 HF6⊢
 go_wp2_with fail
 go_end0
 exact⟨rfl,HW6.out,HF6.out⟩
structure EI (u:World) (bt bm:Nat) (es:List (dh×dv)):Prop where
 tab:cm u bt bm es
 kinds:bR u
 pow:fk u
 bits:u.cell? (ak 6 15)=some (.int .u8 4)
structure E2 (B0 bt bm:Nat):Prop where
 bt:bt<B0
 bm:bm<B0
 kinds:0<B0
 pow:4<B0
 bits:6<B0
theorem EI.keep {u u':World} {bt bm B0:Nat} {es:List (dh×dv)} (h:EI u bt bm es) (hl:E2 B0 bt bm) (hb:Below B0 u u'):EI u' bt bm es:=
 ⟨h.tab.below hb hl.bt hl.bm,h.kinds.below hb hl.kinds,h.pow.keep (hb.block _ hl.pow),(hb.cell (p:=(ak 6 15)) hl.bits).trans h.bits⟩
theorem iH (u:World) (B wb bt:Nat) (way:Int) (acc s:List UInt8) (h:cw u B wb bt way acc) (hs:s.length<=1000) (ht:u.cell? (ak 6 15)=some (.int .u8 4)):
 Calls prog 65 #[ah wb,af s] u fun e u'=>e=.returned (af (eu way s))/\aE u u':=by
 obtain⟨A,c,hb,-⟩:=h.blk
 have c1:u.cell? (ak wb 1)=some (ae way):=by rw[cell_of_row u wb 1 _ _ (0,0) hb];rfl
 have HT:=ad ht
 obtain⟨T,hT⟩:∃T,T=eu way s:=⟨_,rfl⟩
 rw[<-hT]
 have HTT:=ad hT
 clear hb ht h hT
 by_cases hw:way=0
 ·have hw':(way==0)=true:=by rw[hw];rfl
  have hts:T=s:=by rw[HTT.out];unfold eu;rw[if_pos hw]
  clear hw
  go_enter func65,ntmps65
  go_wp2_with fail
  go_ret
  exact⟨by rw[hts];rfl,aA⟩
 ·have hw':(way==0)=false:=beq_eq_false_iff_ne.2 hw
  have hts:T=sn s:=by rw[HTT.out];unfold eu;rw[if_neg hw]
  have HTS:=ad hts
  clear hw hts
  go_enter func65,ntmps65
  go_wp2_with fail
  refine(Co u s (by omega) HT.out).mono ?_
  rintro e w1 ⟨rfl,hb1⟩
  go_wp2_with fail
  go_ret
  exact⟨by rw[HTS.out];rfl,hb1⟩
theorem mn (u:World) (B:Nat) (x:TV) (t:Tm) (hx:aO u B x t):
 Calls prog 138 #[aU x] u fun e u'=>e=.returned (.bool (dj t))/\aE u u':=by
 obtain⟨k1,k2,k3,k4,k5,-⟩:=hx.open
 obtain⟨r,hr⟩:∃r,r=dj t:=⟨_,rfl⟩
 rw[<-hr]
 have HR:Hid (r=(decide (x.k=4)&&(decide (x.s=[46])&&decide (x.len=2)))):=ad (by rw[hr];unfold dj;rw[k1,k3,k4])
 clear hr k1 k2 k3 k4 hx
 rw[aN]
 by_cases h1:x.k=4
 ·have b1:(x.k==4)=true:=by rw[h1];rfl
  by_cases h2:x.s=[46]
  ·have b2:(x.s==[46])=true:=by rw[h2];rfl
   by_cases h3:x.len=2
   ·have hrt:r=true:=by rw[HR.out,h1,h2,h3];rfl
    have b3:((x.len:Int)==2)=true:=by rw[h3];rfl
    clear h1 h2 h3
    go_enter func138,ntmps138
    go_wp2_with fail
    go_ret
    exact⟨by rw[hrt];simp_all,aB⟩
   ·have hrt:r=false:=by rw[HR.out,decide_eq_false h3];simp
    have b3:((x.len:Int)==2)=false:=beq_eq_false_iff_ne.2 (by omega)
    clear h1 h2 h3
    go_enter func138,ntmps138
    go_wp2_with fail
    go_ret
    exact⟨by rw[hrt];simp_all,aB⟩
  ·have hrt:r=false:=by rw[HR.out,decide_eq_false h2];simp
   have b2:(x.s==[46])=false:=beq_eq_false_iff_ne.2 h2
   clear h1 h2
   go_enter func138,ntmps138
   go_wp2_with fail
   go_ret
   exact⟨by rw[hrt];rfl,aB⟩
 ·have hrt:r=false:=by rw[HR.out,decide_eq_false h1];rfl
  have b1:(x.k==4)=false:=beq_eq_false_iff_ne.2 h1
  clear h1
  go_enter func138,ntmps138
  go_wp2_with fail
  go_ret
  exact⟨by rw[hrt];rfl,aB⟩
end
section
open Go.RowKit Go.Maps
def pH (o:sI):Value:=.agg #[ae o.side,ae o.pri,af o.name,.bool o.left,.bool o.right]
def Fb:sI:=⟨0,0,[],false,false⟩
def ik (o:Option sI):Value:=.tuple #[pH (o.getD Fb),.bool o.isSome]
theorem bw {w1:World} {b:Nat} {a0 a1 a2 a3 a4:Value} {t:TypeId} (h:w1.heap[b]?=some (.cells #[a0,a1,a2,a3,a4] t (0,0))):
 w1.cell? (ak b 0)=some a0/\w1.cell? (ak b 1)=some a1/\w1.cell? (ak b 2)=some a2/\w1.cell? (ak b 3)=some a3/\w1.cell? (ak b 4)=some a4/\(∀o,w1.frozen? ⟨b,o,none⟩=false):=
 ⟨by rw[cell_of_row w1 b 0 _ t (0,0) h];rfl,by rw[cell_of_row w1 b 1 _ t (0,0) h];rfl,by rw[cell_of_row w1 b 2 _ t (0,0) h];rfl,by rw[cell_of_row w1 b 3 _ t (0,0) h];rfl,by rw[cell_of_row w1 b 4 _ t (0,0) h];rfl,fun o=>by simp[World.frozen?,h]⟩
theorem eE {w:World} {b:Nat} {x0 x1 x2 x3 x4:Value} {t:TypeId} (h:w.heap[b]?=some (.cells #[x0,x1,x2,x3,x4] t (0,0))) (a0 a1 a2 a3 a4:Value):
 (((((w.setCell (ak b 0) a0).setCell (ak b 1) a1).setCell (ak b 2) a2).setCell (ak b 3) a3).setCell (ak b 4) a4).heap[b]?=some (.cells #[a0,a1,a2,a3,a4] t (0,0)):=by
 rw[aK (aK (aK (aK (aK h a0) a1) a2) a3) a4]
 rfl
theorem dt {w W:World} (h:aE w W) (b:Nat) (hb:w.heap.size<=b) (a0 a1 a2 a3 a4:Value):
 aE w (((((W.setCell (ak b 0) a0).setCell (ak b 1) a1).setCell (ak b 2) a2).setCell (ak b 3) a3).setCell (ak b 4) a4):=
 ((((h.setCell (p:=(ak b 0)) hb _).setCell (p:=(ak b 1)) hb _).setCell (p:=(ak b 2)) hb _).setCell (p:=(ak b 3)) hb _).setCell (p:=(ak b 4)) hb _
theorem jA (u:World) (B wb bt bm:Nat) (es:List (dh×dv)) (way:Int) (acc:List UInt8) (h:cw u B wb bt way acc) (hE:EI u bt bm es) (Bx:Nat) (x:TV) (t:Tm) (hx:aO u Bx x t) (hBx:Bx<=u.heap.size) (hs:x.s.length<=1000):
 Calls prog 140 #[ah wb,aU x] u fun e u'=>e=.returned (ik (dY es way t))/\aE u u':=by
 obtain⟨A,c,hb,-⟩:=h.blk
 have hlt:=h.lt
 obtain⟨k1,k2,k3,k4,k5,-⟩:=hx.open
 have HX:=ad hx
 have HE:=ad hE
 have hcl:=mn
 obtain⟨q,hq⟩:∃q,q=dj t:=⟨_,rfl⟩
 have HQ:=ad hq
 obtain⟨O,hO⟩:∃O,O=dY es way t:=⟨_,rfl⟩
 rw[<-hO]
 have HO:=ad hO
 unfold dY at HO
 rw[k1,k3,k4,<-hq]at HO
 obtain⟨W,hW⟩:∃W,W=(u.alloc (.cells #[ae x.k,ae x.n,af x.s,.slice x.A x.len x.cap] 27)).alloc (.cells #[ae 0,ae 0,ai,.bool false,.bool false] 218):=⟨_,rfl⟩
 have hbW:aE u W:=by rw[hW];exact aB.alloc (by simp) _
 have hr0:W.heap[u.heap.size+1]?=some (.cells #[ae 0,ae 0,ai,.bool false,.bool false] 218 (0,0)):=by
  rw[hW]
  have:=heap_alloc_new (u.alloc (.cells #[ae x.k,ae x.n,af x.s,.slice x.A x.len x.cap] 27)) (.cells #[ae 0,ae 0,ai,.bool false,.bool false] 218)
  rwa[World.size_alloc]at this
 have hx0:W.heap[u.heap.size]?=some (.cells #[ae x.k,ae x.n,af x.s,.slice x.A x.len x.cap] 27 (0,0)):=by
  rw[hW,aw _ _ _ (by simp)]
  exact az
 have hwb0:W.heap[wb]?=some (.cells #[.slice A acc.length c,ae way,ah bt,gj wb] 79 (0,0)):=(hbW.block wb hlt).trans hb
 have hsW:u.heap.size+1<W.heap.size:=by rw[hW];simp
 obtain⟨f0,f1,f2,f3,-⟩:=aH hx0
 obtain⟨z0,z1,z2,z3,z4,zf⟩:=bw hr0
 obtain⟨c0,c1,c2,c3,-⟩:=aH hwb0
 have HV:=ad (aD hr0 hbW)
 have HXB:=ad hx0
 have HWB:=ad hwb0
 have HSW:=ad hsW
 have hbr:=Below.refl W.heap.size W
 have hbd:aE W W.drew:=(Below.refl W.heap.size W).drew
 have HIS:Hid (∀v,aE W v->Calls prog 138 #[aU x] v fun e v'=>e=.returned (.bool q)/\aE W v'):=ad fun v hv=>by
  refine(mn v Bx x t (((HX.keep aC fun k hk=>(HV.2.block k (by omega))).keep aC fun k hk=>hv.block k (by have:=HV.2.size;omega)))).mono ?_
  rintro e v' ⟨rfl,hb'⟩
  exact⟨by rw[HQ.out],hv.trans (hb'.mono hv.size)⟩
 clear hO hE h hx hq hcl k1 k2 k3 k4 hbW hr0 hx0 hwb0 hb
 rw[aN]at HIS⊢
 go_enter func140,ntmps140
 go_upto_region 1 with fail
 rw[<-hW]
 clear hW
 by_cases hw:way=2
 ·have hw':(way==2)=true:=by rw[hw];rfl
  have hon:O=none:=by rw[HO.out,if_pos (.inl hw)]
  clear hw HO
  go_wp2_with fail
  have hC:=eE HV.1 (ae 0) (ae 0) ai (.bool false) (.bool false)
  have hB:=dt HV.2 (u.heap.size+1) (by omega) (ae 0) (ae 0) ai (.bool false) (.bool false)
  obtain⟨z0,z1,z2,z3,z4,zf⟩:=bw hC
  refine⟨rfl,.tuple #[.agg #[ae 0,ae 0,ai,.bool false,.bool false],.bool false],by simp[results,results140,go_sem,z0,z1,z2,z3,z4],?_⟩
  exact⟨by rw[hon];rfl,hB⟩
 have hw':(way==2)=false:=beq_eq_false_iff_ne.2 hw
 by_cases hk:x.k=4
 case neg=>
  have hk':(x.k !=4)=true:=bne_iff_ne.2 hk
  have hon:O=none:=by rw[HO.out,if_pos (.inr (.inl hk))]
  clear hw hk HO
  go_wp2_with fail
  have hC:=eE HV.1 (ae 0) (ae 0) ai (.bool false) (.bool false)
  have hB:=dt HV.2 (u.heap.size+1) (by omega) (ae 0) (ae 0) ai (.bool false) (.bool false)
  obtain⟨z0,z1,z2,z3,z4,zf⟩:=bw hC
  refine⟨rfl,.tuple #[.agg #[ae 0,ae 0,ai,.bool false,.bool false],.bool false],by simp[results,results140,go_sem,z0,z1,z2,z3,z4],?_⟩
  exact⟨by rw[hon];rfl,hB⟩
 have hk':(x.k !=4)=false:=by rw[hk];rfl
 have HK4:=ad hk
 have HWW:=ad hw
 clear hk hw
 go_wp2_with fail
 refine(HIS.out W hbr).mono ?_
 rintro e W1 ⟨rfl,hb1⟩
 have HV1:=ad (aD ((hb1.block (u.heap.size+1) HSW.out).trans HV.1) (HV.2.trans (hb1.mono HV.2.size)))
 have HXB1:=ad ((hb1.block u.heap.size (by have:=HSW.out;omega)).trans HXB.out)
 have HWB1:=ad ((hb1.block wb (by have:=HSW.out;omega)).trans HWB.out)
 have HE1:Hid (∀v,aE W1 v->cm v bt bm es/\bR v):=ad fun v hv=>by
  have h2:=HV1.2
  exact⟨(HE.tab.later h2).later hv,(HE.kinds.later h2).later hv⟩
 clear c0 c1 c2 c3 f0 f1 f2 f3 z0 z1 z2 z3 z4 zf hbr hbd hb1 HIS
 obtain⟨f0,f1,f2,f3,-⟩:=aH HXB1.out
 obtain⟨z0,z1,z2,z3,z4,zf⟩:=bw HV1.1
 obtain⟨c0,c1,c2,c3,-⟩:=aH HWB1.out
 by_cases hqt:q=true
 ·have hon:O=none:=by rw[HO.out,if_pos (.inr (.inr hqt))]
  subst hqt
  clear HO
  go_wp2_with fail
  have hC:=eE HV1.1 (ae 0) (ae 0) ai (.bool false) (.bool false)
  have hB:=dt HV1.2 (u.heap.size+1) (by omega) (ae 0) (ae 0) ai (.bool false) (.bool false)
  obtain⟨z0,z1,z2,z3,z4,zf⟩:=bw hC
  refine⟨rfl,.tuple #[.agg #[ae 0,ae 0,ai,.bool false,.bool false],.bool false],by simp[results,results140,go_sem,z0,z1,z2,z3,z4],?_⟩
  exact⟨by rw[hon];rfl,hB⟩
 have hqf:q=false:=by simpa using hqt
 have hO1:O=_:=HO.trans (if_neg (by rintro(e|e|e);exact HWW.out e;exact e HK4.out;exact hqt e))
 have HO1:=ad hO1
 subst hqf
 clear hO1 HO hqt HQ
 have hbr:=Below.refl W1.heap.size W1
 have hbd:aE W1 W1.drew:=(Below.refl W1.heap.size W1).drew
 have cc:∀(p:Addr) (v:Value),W1.cell? p=some v->∀u,aE W1 u->u.cell? p=some v:=fun p v h u hb=>(World.cell?_of_block (hb.block _ (World.block_lt_of_cell? W1 _ h))).trans h
 have HS:Hid (∀v,aE W1 v->v.cell? (ak wb 2)=some (ah bt)/\v.cell? (ak u.heap.size 2)=some (af x.s)):=ad fun v hv=>⟨cc _ _ c2 v hv,cc _ _ f2 v hv⟩
 have HN:Hid (gP x.s):=ad (by unfold gP maxLen;omega)
 clear cc
 have H1:Hid (W1.heap.size=W1.heap.size):=ad rfl
 obtain⟨P1,hP1⟩:∃P,P=(bM es 1 x.s).1:=⟨_,rfl⟩
 obtain⟨P2,hP2⟩:∃P,P=(bM es 1 x.s).2.2:=⟨_,rfl⟩
 obtain⟨Q1,hQ1⟩:∃P,P=(bM es 3 x.s).1:=⟨_,rfl⟩
 obtain⟨Q2,hQ2⟩:∃P,P=(bM es 3 x.s).2.1:=⟨_,rfl⟩
 obtain⟨I1,hI1⟩:∃P,P=(bM es 2 x.s).1:=⟨_,rfl⟩
 obtain⟨I2,hI2⟩:∃P,P=(bM es 2 x.s).2.1:=⟨_,rfl⟩
 obtain⟨I3,hI3⟩:∃P,P=(bM es 2 x.s).2.2:=⟨_,rfl⟩
 have hpre:Hid (∀v,aE W1 v->Calls prog 128 #[ah bt,af x.s] v fun e v'=>e=.returned (.tuple #[ae P1,ae P2])/\aE W1 v'):=ad fun v hv=>by
  refine(t8 v bt bm es (HE1.out v hv).1 (HE1.out v hv).2 x.s HN.out).mono ?_
  rintro e v' ⟨rfl,hb'⟩
  exact⟨by rw[hP1,hP2],hv.trans (hb'.mono hv.size)⟩
 have hpost:Hid (∀v,aE W1 v->Calls prog 225 #[ah bt,af x.s] v fun e v'=>e=.returned (.tuple #[ae Q1,ae Q2])/\aE W1 v'):=ad fun v hv=>by
  refine(sy v bt bm es (HE1.out v hv).1 (HE1.out v hv).2 x.s HN.out).mono ?_
  rintro e v' ⟨rfl,hb'⟩
  exact⟨by rw[hQ1,hQ2],hv.trans (hb'.mono hv.size)⟩
 have hinf:Hid (∀v,aE W1 v->Calls prog 224 #[ah bt,af x.s] v fun e v'=>e=.returned (.tuple #[ae I1,ae I2,ae I3])/\aE W1 v'):=ad fun v hv=>by
  refine(vN v bt bm es (HE1.out v hv).1 (HE1.out v hv).2 x.s HN.out).mono ?_
  rintro e v' ⟨rfl,hb'⟩
  exact⟨by rw[hI1,hI2,hI3],hv.trans (hb'.mono hv.size)⟩
 have HO2:Hid (O=if x.len=1 then(if 0<P1 then some ⟨1,P1,x.s,false,false⟩else if 0<Q1 then some ⟨3,Q1,x.s,false,false⟩else none)else if x.len=2 then(if 0<I1 then some ⟨2,I1,x.s,decide (I2=I1),decide (I3=I1)⟩else none)else none):=ad (by rw[hP1,hQ1,hI1,hI2,hI3];exact HO1.out)
 have HXC:Hid (∀v,aE W1 v->v.heap[u.heap.size]?=some (.cells #[ae x.k,ae x.n,af x.s,.slice x.A x.len x.cap] 27 (0,0))/\v.heap[u.heap.size+1]?=some (.cells #[ae 0,ae 0,ai,.bool false,.bool false] 218 (0,0))/\aE u v):=ad fun v hv=>by
  have h1:u.heap.size+1<W1.heap.size:=(ap HV1.1).1
  exact⟨(hv.block _ (by omega)).trans HXB1.out,(hv.block _ h1).trans HV1.1,HV1.2.trans (hv.mono HV1.2.size)⟩
 clear hP1 hP2 hQ1 hQ2 hI1 hI2 hI3 H1
 by_cases hl1:x.len=1
 ·have b1:((x.len:Int)==1)=true:=by rw[hl1];rfl
  have HO3:Hid (O=if 0<P1 then some ⟨1,P1,x.s,false,false⟩else if 0<Q1 then some ⟨3,Q1,x.s,false,false⟩else none):=ad (by rw[HO2.out,if_pos hl1])
  clear hl1
  go_wp2_with fail
  go_region_held3 (fun v=>v.cell? (ak wb 2)=some (ah bt)/\v.cell? (ak u.heap.size 2)=some (af x.s))
   (first|(with_reducible exact HS.out _ (by assumption)))
   (first|(go_at_call 128;with_reducible refine(hpre.out _ (by assumption)).mono ?_;rintro e W2 ⟨rfl,hb2⟩))
  obtain⟨r1,r2,r3⟩:=HXC.out W2 hb2
  have HV2:=ad (aD r2 r3)
  clear f0 f1 f2 f3 z0 z1 z2 z3 z4 zf
  obtain⟨f0,f1,f2,f3,-⟩:=aH r1
  obtain⟨z0,z1,z2,z3,z4,zf⟩:=bw r2
  clear r1 r2 r3
  by_cases hp:0<P1
  ·have hon:O=some ⟨1,P1,x.s,false,false⟩:=by rw[HO3.out,if_pos hp]
   have HON:=ad hon
   clear hon
   go_wp2_with fail
   have hC:=eE HV2.1 (ae 1) (ae P1) (af x.s) (.bool false) (.bool false)
   have hB:=dt HV2.2 (u.heap.size+1) (by omega) (ae 1) (ae P1) (af x.s) (.bool false) (.bool false)
   clear z0 z1 z2 z3 z4 zf
   obtain⟨z0,z1,z2,z3,z4,zf⟩:=bw hC
   refine⟨rfl,.tuple #[.agg #[ae 1,ae P1,af x.s,.bool false,.bool false],.bool true],by simp[results,results140,go_sem,z0,z1,z2,z3,z4],?_⟩
   exact⟨by rw[HON.out];rfl,hB⟩
  have hp':¬0<P1:=hp
  have HP0:=ad hp'
  go_wp2_with fail
  go_region_held3 (fun v=>v.cell? (ak wb 2)=some (ah bt)/\v.cell? (ak u.heap.size 2)=some (af x.s))
   (first|(with_reducible exact HS.out _ (by assumption))|(with_reducible exact HS.out _ hb2.drew))
   (first|(go_at_call 225;with_reducible refine(hpost.out _ (by first|assumption|exact hb2.drew)).mono ?_;rintro e W3 ⟨rfl,hb3⟩))
  obtain⟨r1,r2,r3⟩:=HXC.out W3 hb3
  have HV3:=ad (aD r2 r3)
  clear f0 f1 f2 f3 z0 z1 z2 z3 z4 zf
  obtain⟨f0,f1,f2,f3,-⟩:=aH r1
  obtain⟨z0,z1,z2,z3,z4,zf⟩:=bw r2
  clear r1 r2 r3
  by_cases hq:0<Q1
  ·have hon:O=some ⟨3,Q1,x.s,false,false⟩:=by rw[HO3.out,if_neg (show¬0<P1 by have:=HP0.out;omega),if_pos hq]
   have HON:=ad hon
   clear hon
   go_wp2_with fail
   have hC:=eE HV3.1 (ae 3) (ae Q1) (af x.s) (.bool false) (.bool false)
   have hB:=dt HV3.2 (u.heap.size+1) (by omega) (ae 3) (ae Q1) (af x.s) (.bool false) (.bool false)
   clear z0 z1 z2 z3 z4 zf
   obtain⟨z0,z1,z2,z3,z4,zf⟩:=bw hC
   refine⟨rfl,.tuple #[.agg #[ae 3,ae Q1,af x.s,.bool false,.bool false],.bool true],by simp[results,results140,go_sem,z0,z1,z2,z3,z4],?_⟩
   exact⟨by rw[HON.out];rfl,hB⟩
  have hq':¬0<Q1:=hq
  have hon:O=none:=by rw[HO3.out,if_neg (show¬0<P1 by have:=HP0.out;omega),if_neg hq]
  have HON:=ad hon
  clear hon
  go_wp2_with fail
  have hC:=eE HV3.1 (ae 0) (ae 0) ai (.bool false) (.bool false)
  have hB:=dt HV3.2 (u.heap.size+1) (by omega) (ae 0) (ae 0) ai (.bool false) (.bool false)
  clear z0 z1 z2 z3 z4 zf
  obtain⟨z0,z1,z2,z3,z4,zf⟩:=bw hC
  refine⟨rfl,.tuple #[.agg #[ae 0,ae 0,ai,.bool false,.bool false],.bool false],by simp[results,results140,go_sem,z0,z1,z2,z3,z4],?_⟩
  exact⟨by rw[HON.out];rfl,hB⟩
 have b1:((x.len:Int)==1)=false:=beq_eq_false_iff_ne.2 (by omega)
 by_cases hl2:x.len=2
 ·have b2:((x.len:Int)==2)=true:=by rw[hl2];rfl
  have HO3:Hid (O=if 0<I1 then some ⟨2,I1,x.s,decide (I2=I1),decide (I3=I1)⟩else none):=ad (by rw[HO2.out,if_neg hl1,if_pos hl2])
  clear hl1 hl2
  go_wp2_with fail
  go_region_held3 (fun v=>v.cell? (ak wb 2)=some (ah bt)/\v.cell? (ak u.heap.size 2)=some (af x.s))
   (first|(with_reducible exact HS.out _ (by assumption)))
   (first|(go_at_call 224;with_reducible refine(hinf.out _ (by assumption)).mono ?_;rintro e W2 ⟨rfl,hb2⟩))
  obtain⟨r1,r2,r3⟩:=HXC.out W2 hb2
  have HV2:=ad (aD r2 r3)
  clear f0 f1 f2 f3 z0 z1 z2 z3 z4 zf
  obtain⟨f0,f1,f2,f3,-⟩:=aH r1
  obtain⟨z0,z1,z2,z3,z4,zf⟩:=bw r2
  clear r1 r2 r3
  by_cases hp:0<I1
  ·have hon:O=some ⟨2,I1,x.s,I2==I1,I3==I1⟩:=by rw[HO3.out,if_pos hp];rfl
   have HON:=ad hon
   clear hon
   go_wp2_with fail
   have hC:=eE HV2.1 (ae 2) (ae I1) (af x.s) (.bool (I2==I1)) (.bool (I3==I1))
   have hB:=dt HV2.2 (u.heap.size+1) (by omega) (ae 2) (ae I1) (af x.s) (.bool (I2==I1)) (.bool (I3==I1))
   clear z0 z1 z2 z3 z4 zf
   obtain⟨z0,z1,z2,z3,z4,zf⟩:=bw hC
   refine⟨rfl,.tuple #[.agg #[ae 2,ae I1,af x.s,.bool (I2==I1),.bool (I3==I1)],.bool true],by simp[results,results140,go_sem,z0,z1,z2,z3,z4],?_⟩
   exact⟨by rw[HON.out];rfl,hB⟩
  have hp':¬0<I1:=hp
  have hon:O=none:=by rw[HO3.out,if_neg hp]
  have HON:=ad hon
  clear hon
  go_wp2_with fail
  have hC:=eE HV2.1 (ae 0) (ae 0) ai (.bool false) (.bool false)
  have hB:=dt HV2.2 (u.heap.size+1) (by omega) (ae 0) (ae 0) ai (.bool false) (.bool false)
  clear z0 z1 z2 z3 z4 zf
  obtain⟨z0,z1,z2,z3,z4,zf⟩:=bw hC
  refine⟨rfl,.tuple #[.agg #[ae 0,ae 0,ai,.bool false,.bool false],.bool false],by simp[results,results140,go_sem,z0,z1,z2,z3,z4],?_⟩
  exact⟨by rw[HON.out];rfl,hB⟩
 have b2:((x.len:Int)==2)=false:=beq_eq_false_iff_ne.2 (by omega)
 have hon:O=none:=by rw[HO2.out,if_neg hl1,if_neg hl2]
 have HON:=ad hon
 clear hon hl1 hl2
 go_wp2_with fail
 have hC:=eE HV1.1 (ae 0) (ae 0) ai (.bool false) (.bool false)
 have hB:=dt HV1.2 (u.heap.size+1) (by omega) (ae 0) (ae 0) ai (.bool false) (.bool false)
 clear z0 z1 z2 z3 z4 zf
 obtain⟨z0,z1,z2,z3,z4,zf⟩:=bw hC
 refine⟨rfl,.tuple #[.agg #[ae 0,ae 0,ai,.bool false,.bool false],.bool false],by simp[results,results140,go_sem,z0,z1,z2,z3,z4],?_⟩
 exact⟨by rw[HON.out];rfl,hB⟩
structure jn (u:World) (B0 B wb bt bm:Nat) (es:List (dh×dv)) (way:Int) (acc:List UInt8):Prop where
 at':cw u B wb bt way acc
 env:EI u bt bm es
 lo:E2 B0 bt bm
 b0:B0<=wb
 bu:B<=u.heap.size
section
variable {u u' v:World} {B0 B wb bt bm:Nat} {es:List (dh×dv)} {way:Int} {acc acc':List UInt8}
theorem jn.b0B (h:jn u B0 B wb bt bm es way acc):B0<=B:=by have:=h.b0;have:=h.at'.wbB;omega
theorem jn.low (h:jn u B0 B wb bt bm es way acc) (hf:Fr (bJ u B wb) u u'):Below B0 u u':=bJ.below hf h.b0 h.b0B (Nat.le_trans h.b0B h.bu)
theorem jn.next (h:jn u B0 B wb bt bm es way acc) (ha:cw u' B wb bt way acc') (hf:Fr (bJ u B wb) u u'):jn u' B0 B wb bt bm es way acc':=
 ⟨ha,h.env.keep h.lo (h.low hf),h.lo,h.b0,Nat.le_trans h.bu hf.size⟩
theorem jn.later (h:jn u B0 B wb bt bm es way acc) (hb:aE u u'):jn u' B0 B wb bt bm es way acc:=h.next (h.at'.later hb) (Fr.of_below _ hb)
theorem jn.put3 (h:jn u B0 B wb bt bm es way acc):u.cell? (ak wb 3)=some (gj wb)/\u.cell? (ak wb 2)=some (ah bt)/\u.cell? (ak wb 1)=some (ae way):=by
 obtain⟨A,c,hb,-⟩:=h.at'.blk
 exact⟨by rw[cell_of_row u wb 3 _ _ (0,0) hb];rfl,by rw[cell_of_row u wb 2 _ _ (0,0) hb];rfl,by rw[cell_of_row u wb 1 _ _ (0,0) hb];rfl⟩
theorem jn.ne (h:jn u B0 B wb bt bm es way acc) {cs:Array Value} {t:TypeId} {k:Nat} (hk:u.heap[k]?=some (.cells cs t (0,0))) (ht:t≠79):k≠wb:=by
 obtain⟨A,c,hb,-⟩:=h.at'.blk
 exact aR.ne ⟨_,hk⟩ ⟨_,hb⟩ ht
end
def jB (es:List (dh×dv)) (way:Int) (n:Nat):Prop:=
 ∀(u:World) (B0 B wb bt bm:Nat) (acc:List UInt8) (x:TV) (t:Tm) (most:Int),t.size<=n->iF t->aO u B0 x t->jn u B0 B wb bt bm es way acc->acc.length+6000*t.size<=10000000000→
  Calls prog 28 #[ah wb,aU x,ae most] u fun e u'=>e=am/\cw u' B wb bt way (acc++gM es way t most)/\Fr (bJ u B wb) u u'
def C2 (es:List (dh×dv)) (way:Int) (n:Nat):Prop:=
 ∀(u:World) (B0 B wb bt bm:Nat) (acc:List UInt8) (x:TV) (t:Tm) (most:Int),t.size<=n->iF t->t.k=4->aO u B0 x t->jn u B0 B wb bt bm es way acc->acc.length+6000*t.size<=10000000000→
  Calls prog 66 #[ah wb,aU x,ae most] u fun e u'=>e=am/\cw u' B wb bt way (acc++gM es way t most)/\Fr (bJ u B wb) u u'
theorem E7 (a b:List UInt8):(⟨a.toArray⟩++⟨b.toArray⟩:ByteArray)=⟨(a++b).toArray⟩:=by
 apply ByteArray.ext
 simp
theorem FE {es:List (dh×dv)} {way:Int} {t:Tm} {m:Int} (h:t.k=1):gM es way t m=95::Lib.itoa t.n:=by rw[iz];unfold fK;rw[if_pos h]
theorem Fk {es:List (dh×dv)} {way:Int} {t:Tm} {m:Int} (h:t.k=2):gM es way t m=Lib.itoa t.n:=by rw[iz];unfold fK;rw[if_neg (by omega),if_pos h]
theorem FG {es:List (dh×dv)} {way:Int} {t:Tm} {m:Int} (h:t.k=3):gM es way t m=eu way t.s:=by rw[iz];unfold fK;rw[if_neg (by omega),if_neg (by omega),if_pos h]
theorem Fh {es:List (dh×dv)} {way:Int} {t:Tm} {m:Int} (h:t.k=4):gM es way t m=eW es way (gM es way) t m:=by rw[iz];unfold fK;rw[if_neg (by omega),if_neg (by omega),if_neg (by omega)]
theorem AR {es:List (dh×dv)} {way:Int} {n:Nat} (hc:C2 es way n):jB es way n:=by
 intro u B0 B wb bt bm acc x t most hn hw hx hK hlen
 obtain⟨k1,k2,k3,k4,k5,-⟩:=hx.open
 have hkind:=hw.kind
 have hfit:=hw.n
 have hnm:=hw.name.1
 obtain⟨T,hT⟩:∃T,T=gM es way t most:=⟨_,rfl⟩
 rw[<-hT]
 have hlt:=hK.at'.lt
 obtain⟨W,hW⟩:∃W,W=u.alloc (.cells #[ae x.k,ae x.n,af x.s,.slice x.A x.len x.cap] 27):=⟨_,rfl⟩
 have hbW:aE u W:=by rw[hW];exact aB
 have hx0:W.heap[u.heap.size]?=some (.cells #[ae x.k,ae x.n,af x.s,.slice x.A x.len x.cap] 27 (0,0)):=by rw[hW];exact az
 have hKW:=hK.later hbW
 obtain⟨f0,f1,f2,f3,-⟩:=aH hx0
 obtain⟨c3,c2,c1⟩:=hKW.put3
 have HBW:=ad hbW
 have HKW:=ad hKW
 have HX0:=ad hx0
 have hbr:aE W W:=aA
 have hbd:aE W W.drew:=(Below.refl W.heap.size W).drew
 have hlW:u.heap.size<W.heap.size:=by rw[hW];simp
 have hneW:u.heap.size≠wb:=by omega
 have cc:∀(p:Addr) (v:Value),W.cell? p=some v->∀u,aE W u->u.cell? p=some v:=fun p v h u hb=>(World.cell?_of_block (hb.block _ (World.block_lt_of_cell? W _ h))).trans h
 have HS:Hid (∀v,aE W v->v.cell? (ak wb 3)=some (gj wb)/\v.cell? (ak u.heap.size 1)=some (ae x.n)/\v.cell? (ak u.heap.size 2)=some (af x.s)):=ad fun v hv=>⟨cc _ _ c3 v hv,cc _ _ f1 v hv,cc _ _ f2 v hv⟩
 have HS1:Hid (∀v,cw v B wb bt way (acc++T)/\Fr (bJ W B wb) W v->v.cell? (ak wb 3)=some (gj wb)/\v.cell? (ak u.heap.size 1)=some (ae x.n)/\v.cell? (ak u.heap.size 2)=some (af x.s)):=ad fun v hv=>by
  have h1:=(HKW.next hv.1 hv.2).put3.1
  have h2:=bJ.keep hv.2 HX0.out (by decide) hneW
  obtain⟨-,g1,g2,-,-⟩:=aH h2
  exact⟨h1,g1,g2⟩
 have HADD:Hid (∀v,aE W v->acc.length+T.length<=100000000000->Calls prog 27 #[ah wb,af T] v fun e v'=>e=am/\cw v' B wb bt way (acc++T)/\Fr (bJ W B wb) W v'):=ad fun v hv hl=>by
  have hk:=HKW.later hv
  refine(cM v B wb bt way acc T hk.at' hk.bu hl).mono ?_
  rintro e v' ⟨rfl,h1,h2⟩
  exact⟨rfl,h1,bJ.trans (Fr.of_below _ hv) h2⟩
 have hfin:∀v,Fr (bJ W B wb) W v->Fr (bJ u B wb) u v:=fun v hv=>bJ.trans (Fr.of_below _ HBW.out) hv
 have HFIN:=ad hfin
 have HBU:=ad hK.bu
 have HLEN:Hid (acc.length+T.length<=100000000000):=ad (by rw[hT];have:=fZ es way t.size t most aC hw;omega)
 have hxn:(Lib.itoa x.n).length<=30:=vz (by rw[<-k2];exact hfit)
 have hk14:x.k=1\/x.k=2\/x.k=3\/x.k=4:=by rw[<-k1];exact hkind
 rcases hk14 with hk|hk|hk|hk
 ·obtain⟨I,hI⟩:∃I,I=Lib.itoa x.n:=⟨_,rfl⟩
  have hTT:T=95::I:=by rw[hT,FE (k1.trans hk),k2,hI]
  have hIl:I.length<=30:=by rw[hI];exact hxn
  have hI1:¬(9223372036854775807<1+I.length):=by omega
  have hI2:¬(9223372036854775806<I.length):=by omega
  have HI:=ad hI
  clear hI hxn
  have b1:(x.k==1)=true:=by rw[hk];rfl
  have HTT:=ad hTT
  have HPR:Hid (∀v,aE W v->Calls prog 64 #[ae x.n] v fun e v'=>e=.returned (af I)/\aE W v'):=ad fun v hv=>by
   refine(oh v (HKW.later hv).env.pow x.n (by rw[<-k2];exact hfit.1) (by rw[<-k2];exact hfit.2)).mono ?_
   rintro e v' ⟨rfl,hb'⟩
   rw[HI.out]
   exact⟨rfl,hv.trans (hb'.mono hv.size)⟩
  have HAD:Hid (∀v,aE W v->Calls prog 27 #[ah wb,.string (⟨#[95]⟩++⟨I.toArray⟩)] v fun e v'=>e=am/\cw v' B wb bt way (acc++T)/\Fr (bJ W B wb) W v'):=ad fun v hv=>by
   rw[show((⟨#[95]⟩:ByteArray)++⟨I.toArray⟩)=⟨T.toArray⟩by rw[HTT.out];exact E7 [95] I]
   exact HADD.out v hv HLEN.out
  clear k1 k2 k3 k4 k5 hk hTT hT hx hw hK hKW hbW hx0 cc hfin hkind hfit hlen
  unfold gj at c3 HS HS1
  rw[aN]
  go_enter func28,ntmps28
  go_upto_region 4 with fail
  rw[<-hW]
  clear hW
  go_region_held3 (fun v=>v.cell? (ak wb 3)=some (.func (.func 27) #[ah wb] #[])/\v.cell? (ak u.heap.size 1)=some (ae x.n)/\v.cell? (ak u.heap.size 2)=some (af x.s))
   (first|(with_reducible exact HS.out _ (by assumption))|(with_reducible exact HS1.out _ (by assumption)))
   (first|(go_at_call 64;with_reducible refine(HPR.out _ (by assumption)).mono ?_;rintro e v1 ⟨rfl,hb1⟩)|(go_at_call 27;with_reducible refine(HAD.out _ (by assumption)).mono ?_;rintro e v2 ⟨rfl,h1,h2⟩;have hg:=aD h1 h2))
  go_wp2_with fail
  go_end0
  exact⟨rfl,h1,HFIN.out _ h2⟩
 ·have hTT:T=Lib.itoa x.n:=by rw[hT,Fk (k1.trans hk),k2]
  have b1:(x.k==1)=false:=by rw[hk];rfl
  have b2:(x.k==2)=true:=by rw[hk];rfl
  have HTT:=ad hTT
  have HPR:Hid (∀v,aE W v->Calls prog 64 #[ae x.n] v fun e v'=>e=.returned (af (Lib.itoa x.n))/\aE W v'):=ad fun v hv=>by
   refine(oh v (HKW.later hv).env.pow x.n (by rw[<-k2];exact hfit.1) (by rw[<-k2];exact hfit.2)).mono ?_
   rintro e v' ⟨rfl,hb'⟩
   exact⟨rfl,hv.trans (hb'.mono hv.size)⟩
  have HAD:Hid (∀v,aE W v->Calls prog 27 #[ah wb,af (Lib.itoa x.n)] v fun e v'=>e=am/\cw v' B wb bt way (acc++T)/\Fr (bJ W B wb) W v'):=ad fun v hv=>by
   rw[<-HTT.out]
   exact HADD.out v hv HLEN.out
  clear k1 k2 k3 k4 k5 hk hTT hT hx hw hK hKW hbW hx0 cc hfin hkind hfit hlen
  unfold gj at c3 HS HS1
  rw[aN]
  go_enter func28,ntmps28
  go_upto_region 6 with fail
  rw[<-hW]
  clear hW
  go_region_held3 (fun v=>v.cell? (ak wb 3)=some (.func (.func 27) #[ah wb] #[])/\v.cell? (ak u.heap.size 1)=some (ae x.n)/\v.cell? (ak u.heap.size 2)=some (af x.s))
   (first|(with_reducible exact HS.out _ (by assumption))|(with_reducible exact HS1.out _ (by assumption)))
   (first|(go_at_call 64;with_reducible refine(HPR.out _ (by assumption)).mono ?_;rintro e v1 ⟨rfl,hb1⟩)|(go_at_call 27;with_reducible refine(HAD.out _ (by assumption)).mono ?_;rintro e v2 ⟨rfl,h1,h2⟩;have hg:=aD h1 h2))
  go_wp2_with fail
  go_end0
  exact⟨rfl,h1,HFIN.out _ h2⟩
 ·have hTT:T=eu way x.s:=by rw[hT,FG (k1.trans hk),k3]
  have b1:(x.k==1)=false:=by rw[hk];rfl
  have b2:(x.k==2)=false:=by rw[hk];rfl
  have b3:(x.k==3)=true:=by rw[hk];rfl
  have HTT:=ad hTT
  have HPR:Hid (∀v,aE W v->Calls prog 65 #[ah wb,af x.s] v fun e v'=>e=.returned (af (eu way x.s))/\aE W v'):=ad fun v hv=>by
   refine(iH v B wb bt way acc x.s (HKW.later hv).at' (by rw[<-k3];exact hnm) (HKW.later hv).env.bits).mono ?_
   rintro e v' ⟨rfl,hb'⟩
   exact⟨rfl,hv.trans (hb'.mono hv.size)⟩
  have HAD:Hid (∀v,aE W v->Calls prog 27 #[ah wb,af (eu way x.s)] v fun e v'=>e=am/\cw v' B wb bt way (acc++T)/\Fr (bJ W B wb) W v'):=ad fun v hv=>by
   rw[<-HTT.out]
   exact HADD.out v hv HLEN.out
  clear k1 k2 k3 k4 k5 hk hTT hT hx hw hK hKW hbW hx0 cc hfin hkind hfit hlen
  unfold gj at c3 HS HS1
  rw[aN]
  go_enter func28,ntmps28
  go_upto_region 8 with fail
  rw[<-hW]
  clear hW
  go_region_held3 (fun v=>v.cell? (ak wb 3)=some (.func (.func 27) #[ah wb] #[])/\v.cell? (ak u.heap.size 1)=some (ae x.n)/\v.cell? (ak u.heap.size 2)=some (af x.s))
   (first|(with_reducible exact HS.out _ (by assumption))|(with_reducible exact HS1.out _ (by assumption)))
   (first|(go_at_call 65;with_reducible refine(HPR.out _ (by assumption)).mono ?_;rintro e v1 ⟨rfl,hb1⟩)|(go_at_call 27;with_reducible refine(HAD.out _ (by assumption)).mono ?_;rintro e v2 ⟨rfl,h1,h2⟩;have hg:=aD h1 h2))
  go_wp2_with fail
  go_end0
  exact⟨rfl,h1,HFIN.out _ h2⟩
 ·have b1:(x.k==1)=false:=by rw[hk];rfl
  have b2:(x.k==2)=false:=by rw[hk];rfl
  have b3:(x.k==3)=false:=by rw[hk];rfl
  have HCO:Hid (∀v,aE W v->Calls prog 66 #[ah wb,.agg #[ae x.k,ae x.n,af x.s,.slice x.A x.len x.cap],ae most] v fun e v'=>e=am/\cw v' B wb bt way (acc++T)/\Fr (bJ W B wb) W v'):=ad fun v hv=>by
   have hk:=HKW.later hv
   rw[<-aN]
   have hb0:B0<=u.heap.size:=Nat.le_trans HKW.b0B HBU.out
   have hx2:=hx.blw ((HBW.mono hb0).trans (hv.mono (Nat.le_trans hb0 HBW.size)))
   refine(hc v B0 B wb bt bm acc x t most hn hw (k1.trans ‹x.k=4›) hx2 hk hlen).mono ?_
   rintro e v' ⟨rfl,h1,h2⟩
   exact⟨rfl,by rw[hT];exact h1,bJ.trans (Fr.of_below _ hv) h2⟩
  clear k1 k2 k3 k4 k5 hk hT hx hw hK hKW hbW hx0 cc hfin hkind hfit hlen
  unfold gj at c3 HS HS1
  rw[aN]
  go_enter func28,ntmps28
  go_upto_region 2 with fail
  rw[<-hW]
  clear hW
  go_wp2_with fail
  refine(HCO.out W hbr).mono ?_
  rintro e W2 ⟨rfl,h1,h2⟩
  go_wp2_with fail
  go_end0
  exact⟨rfl,h1,HFIN.out _ h2⟩
end
section
open Go.RowKit Go.Maps
theorem fU (g:Tm->Int->List UInt8):∀(l:List Tm) (t:Tm),bG g (l++[t])=bG g l++((if l.length=0 then[]else[44])++g t 999)
 |[],t=>rfl
 |[a],t=>by simp[bG]
 |a::b::r,t=>by
  have ih:=fU g (b::r) t
  show g a 999++44::bG g ((b::r)++[t])=(g a 999++44::bG g (b::r))++_
  rw[ih]
  simp
theorem kX:∀(a b:List Tm),Tm.sizes (a++b)=Tm.sizes a+Tm.sizes b
 |[],b=>by simp[Tm.sizes]
 |t::r,b=>by
  have ih:=kX r b
  simp only[List.cons_append,Tm.sizes]
  omega
theorem tX (l:List Tm) (k:Nat):Tm.sizes (l.take k)<=Tm.sizes l:=by
 conv=>rhs;rw[<-List.take_append_drop k l]
 rw[kX]
 omega
theorem lU (l:List Tm) (k:Nat) (t:Tm) (h:l[k]?=some t):Tm.sizes (l.take (k+1))=Tm.sizes (l.take k)+t.size:=by
 obtain⟨hk,rfl⟩:=aq h
 rw[List.take_succ_eq_append_getElem hk,kX]
 simp[Tm.sizes]
theorem uh {es:List (dh×dv)} {way:Int} {n:Nat} (hC:jB es way n) (u:World) (B0 B wb bt bm:Nat) (acc:List UInt8) (x:TV) (t:Tm) (hn:∀y∈t.args,y.size<=n) (hw:iF t) (hx:aO u B0 x t) (hK:jn u B0 B wb bt bm es way acc) (hlen:acc.length+6000*Tm.sizes t.args+900<=10000000000):
 Calls prog 141 #[ah wb,.slice x.A x.len x.cap] u fun e u'=>e=am/\cw u' B wb bt way (acc++bG (gM es way) t.args)/\Fr (bJ u B wb) u u':=by
 obtain⟨k1,k2,k3,k4,k5,karg⟩:=hx.open
 obtain⟨g,hg⟩:∃g,g=gM es way:=⟨_,rfl⟩
 have hsz:=bE t
 have hnl:=hw.name.2
 have hgl:∀y∈t.args,∀m,(g y m).length<=6000*y.size:=fun y hy m=>by rw[hg];exact fZ es way y.size y m aC (hw.mem hy)
 have hwy:∀y∈t.args,iF y:=fun y hy=>hw.mem hy
 rw[<-hg]
 have HG:=ad hg
 have HC:Hid (∀(v:World) (acc2:List UInt8) (y:TV) (ty:Tm),ty∈t.args->aO v B0 y ty->jn v B0 B wb bt bm es way acc2->acc2.length+6000*ty.size<=10000000000->Calls prog 28 #[ah wb,aU y,ae 999] v fun e v'=>e=am/\cw v' B wb bt way (acc2++g ty 999)/\Fr (bJ v B wb) v v'):=ad fun v acc2 y ty hm hy hk hl=>by
  rw[hg]
  exact hC v B0 B wb bt bm acc2 y ty 999 (hn ty hm) (hwy ty hm) hy hk hl
 have HK:=ad hK
 have HX:=ad hx
 have HARG:=ad karg
 have HL4:=ad k4
 have HGL:=ad hgl
 have HLN:=ad (aD hlen (aD hsz hnl))
 obtain⟨xk,xn,xs,xA,xl,xc⟩:=x
 simp only at k4 HL4 HARG⊢
 have hxl:xl<=255:=by omega
 clear hC hn hw hx hK hlen k1 k2 k3 k4 k5 karg hg hsz hnl hgl hwy
 go_enter func141,ntmps141
 go_wp2_with fail
 go_loopw [8] (fun i wr=>∃k:Nat,k<=xl/\i=ae k/\Hid (cw wr B wb bt way (acc++bG g (t.args.take k))/\Fr (bJ u B wb) u wr)) (fun i _=>xl-(intOf i).toNat)
 case atStart=>exact⟨0,Nat.zero_le _,rfl,ad ⟨by simpa[bG]using HK.at',Fr.refl _ _⟩⟩
 case round=>
  obtain⟨k,hk,rfl,HR⟩:=hrel
  by_cases hkl:k<xl
  case neg=>
   have hke:k=xl:=by omega
   have b1:decide ((k:Int)<(xl:Int))=false:=by simp;omega
   have HKE:=ad hke
   clear hke
   go_wp2_with fail
   go_end0
   have h1:=HR.out
   rw[HKE.out,<-HL4.out,List.take_length]at h1
   exact⟨rfl,h1.1,h1.2⟩
  have b1:decide ((k:Int)<(xl:Int))=true:=by simp;omega
  have hlt:k<t.args.length:=by rw[HL4.out];exact hkl
  obtain⟨y,b9,off9,hA9,hb9,ht9,hc9⟩:=HARG.out k _ (au hlt)
  have hmem:t.args[k]∈t.args:=List.getElem_mem hlt
  have htk:t.args[k]?=some t.args[k]:=au hlt
  generalize t.args[k]=ty at ht9 hmem htk
  have hsz9:=lU t.args k ty htk
  have hsy9:=dD t.args ty hmem
  have hst9:=tX t.args (k+1)
  have hcl9:=gr (g:=g) (t.args.take k) fun y hy=>HGL.out y (List.mem_of_mem_take hy)
  have htl9:(t.args.take k).length=k:=by rw[List.length_take];omega
  have hKr:=HK.next HR.1 HR.2
  have hb0:=HK.low HR.2
  have hty:aO wr B0 y ty:=ht9.blw hb0
  have hc9':∀j u,(aJ y)[j]?=some u->wr.cell? (ak b9 (off9+k*4+j))=some u:=fun j u hu=>
   (hb0.cell (p:=(ak b9 (off9+k*4+j))) hb9).trans (hc9 j u hu)
  have f0:=hc9' 0 _ rfl
  have f1:=hc9' 1 _ rfl
  have f2:=hc9' 2 _ rfl
  have f3:=hc9' 3 _ rfl
  simp only[Nat.add_zero]at f0
  obtain⟨W,hW⟩:∃W,W=wr.alloc (.cells #[ae y.k,ae y.n,af y.s,.slice y.A y.len y.cap] 27):=⟨_,rfl⟩
  have hbW:aE wr W:=by rw[hW];exact aB
  have hx0:W.heap[wr.heap.size]?=some (.cells #[ae y.k,ae y.n,af y.s,.slice y.A y.len y.cap] 27 (0,0)):=by rw[hW];exact az
  have hKW:=hKr.later hbW
  have htyW:aO W B0 y ty:=hty.blw (hKr.low (Fr.of_below _ hbW))
  have hltW:=hKr.at'.lt
  have HKW:=ad hKW
  have HTY:=ad htyW
  have HX0:=ad hx0
  have HF:=ad (bJ.trans HR.2 (Fr.of_below _ hbW))
  have hne:wr.heap.size≠wb:=by omega
  have HLK:Hid ((acc++bG g (t.args.take k)).length+1+6000*ty.size<=10000000000):=ad (by
   have h1:=HLN.out
   rw[List.length_append]
   omega)
  have HSN:Hid (t.args.take (k+1)=t.args.take k++[ty]):=ad (by
   obtain⟨h1,h2⟩:=aq htk
   rw[List.take_succ_eq_append_getElem h1,h2])
  have HTL:=ad htl9
  have hk0:(0:Int)<=(k:Int):=by omega
  have hk1:(k:Int)<(xl:Int):=by omega
  have hmem':=ad hmem
  have hwr9:b9<wr.heap.size:=by have:=HK.b0B;have:=HK.bu;have:=HR.2.size;omega
  have hwk:IntKind.i64.wrap ((k:Int)+1)=(k:Int)+1:=IntWalk.i64_in _ (by omega)
  clear hsz9 hsy9 hst9 hcl9 htl9 hKr hb0 hty hc9 hc9' hbW hx0 hKW htyW hmem htk ht9 hb9
  subst hA9
  go_upto_region 3 with fail
  rw[<-hW]
  obtain⟨q,hq⟩:∃q,q=wr.heap.size:=⟨_,rfl⟩
  rw[<-hq]at HX0 hne⊢
  clear hW hq f0 f1 f2 f3
  obtain⟨f0,f1,f2,f3,-⟩:=aH HX0.out
  obtain⟨c3,-,-⟩:=HKW.put3
  unfold gj at c3
  have hkp:(0<k)\/k=0:=by omega
  rcases hkp with hkp|hkp
  ·have HCO:Hid (∀v,cw v B wb bt way ((acc++bG g (t.args.take k))++[44])->Fr (bJ W B wb) W v->Calls prog 28 #[ah wb,aU y,ae 999] v fun e v'=>e=am/\cw v' B wb bt way (acc++bG g (t.args.take (k+1)))/\Fr (bJ u B wb) u v'):=ad fun v ha hf=>by
    refine(HC.out v _ y ty hmem'.out (HTY.blw (HKW.low hf)) (HKW.next ha hf) (by have:=HLK.out;rw[List.length_append];simpa using this)).mono ?_
    rintro e v' ⟨rfl,h1,h2⟩
    refine⟨rfl,?_,bJ.trans (bJ.trans HF.out hf) h2⟩
    rw[HSN.out,fU,HTL.out,if_neg (by omega)]
    simpa using h1
   rw[aN]at HCO
   have hkz:(0:Int)<(k:Int):=by omega
   go_wp2_with fail
   refine(cM W B wb bt way _ [44] HKW.at' HKW.bu (by have:=HLK.out;simp only[List.length_cons,List.length_nil];omega)).mono ?_
   rintro e W2 ⟨rfl,h1,h2⟩
   have hx2:=bJ.keep h2 HX0.out (by decide) hne
   obtain⟨g0,g1,g2,g3,-⟩:=aH hx2
   have HH:=ad (aD h1 h2)
   clear h1 h2 hx2 f0 f1 f2 f3 c3
   go_wp2_with fail
   refine(HCO.out W2 HH.1 HH.2).mono ?_
   rintro e W3 ⟨rfl,h1,h2⟩
   have HH3:=ad (aD h1 h2)
   clear h1 h2 g0 g1 g2 g3
   go_wp2_with fail
   go_roundw
   case rel=>exact⟨k+1,by omega,rfl,HH3⟩
   all_goals (simp[intOf];omega)
  ·have HCO:Hid (Calls prog 28 #[ah wb,aU y,ae 999] W fun e v'=>e=am/\cw v' B wb bt way (acc++bG g (t.args.take (k+1)))/\Fr (bJ u B wb) u v'):=ad (by
    refine(HC.out W _ y ty hmem'.out HTY.out HKW.out (by have:=HLK.out;omega)).mono ?_
    rintro e v' ⟨rfl,h1,h2⟩
    refine⟨rfl,?_,bJ.trans HF.out h2⟩
    rw[HSN.out,fU,HTL.out,if_pos hkp]
    simpa using h1)
   rw[aN]at HCO
   have hkz:¬((0:Int)<(k:Int)):=by omega
   have hkz':¬(0<k):=by omega
   clear hkp
   go_wp2_with fail
   refine HCO.mono ?_
   rintro e W3 ⟨rfl,h1,h2⟩
   have HH3:=ad (aD h1 h2)
   clear h1 h2 f0 f1 f2 f3 c3
   go_wp2_with fail
   go_roundw
   case rel=>exact⟨k+1,by omega,rfl,HH3⟩
   all_goals (simp[intOf];omega)
structure Fg (u W:World) (B0 B wb bt bm:Nat) (es:List (dh×dv)) (way:Int) (acc:List UInt8) (y:TV) (ty:Tm) (o:sI):Prop where
 k:jn W B0 B wb bt bm es way acc
 tm:aO W B0 y ty
 fr:aE u W
 y0:W.heap[u.heap.size]?=some (.cells #[ae y.k,ae y.n,af y.s,.slice y.A y.len y.cap] 27 (0,0))
 o0:W.heap[u.heap.size+1]?=some (.cells #[ae o.side,ae o.pri,af o.name,.bool o.left,.bool o.right] 218 (0,0))
theorem fR {es:List (dh×dv)} {way:Int} {n:Nat} (hC:jB es way n) (u:World) (B0 B wb bt bm:Nat) (acc:List UInt8) (y:TV) (ty:Tm) (o:sI) (same:Bool) (hn:ty.size<=n) (hw:iF ty) (hy:aO u B0 y ty) (hK:jn u B0 B wb bt bm es way acc) (hlen:acc.length+6000*ty.size+2<=10000000000):
 Calls prog 233 #[ah wb,aU y,pH o,.bool same] u fun e u'=>e=am/\cw u' B wb bt way (acc++aZ es way (gM es way) ty o same)/\Fr (bJ u B wb) u u':=by
 obtain⟨k1,k2,k3,k4,k5,-⟩:=hy.open
 obtain⟨g,hg⟩:∃g,g=gM es way:=⟨_,rfl⟩
 rw[<-hg]
 obtain⟨F,hF⟩:∃F,F=acc++aZ es way g ty o same:=⟨_,rfl⟩
 rw[<-hF]
 have hnm:=hw.name.1
 have hkind:=hw.kind
 obtain⟨W,hW⟩:∃W,W=(u.alloc (.cells #[ae y.k,ae y.n,af y.s,.slice y.A y.len y.cap] 27)).alloc (.cells #[ae o.side,ae o.pri,af o.name,.bool o.left,.bool o.right] 218):=⟨_,rfl⟩
 have hKW:Fg u W B0 B wb bt bm es way acc y ty o:=by
  have hbW:aE u W:=by rw[hW];exact aB.alloc (by simp) _
  refine⟨hK.later hbW,hy.blw (hK.low (Fr.of_below _ hbW)),hbW,?_,?_⟩
  ·rw[hW,aw _ _ _ (by simp)]
   exact az
  ·rw[hW]
   have:=heap_alloc_new (u.alloc (.cells #[ae y.k,ae y.n,af y.s,.slice y.A y.len y.cap] 27)) (.cells #[ae o.side,ae o.pri,af o.name,.bool o.left,.bool o.right] 218)
   rwa[World.size_alloc]at this
 have hlt:=hK.at'.lt
 obtain⟨q,hq⟩:∃q,q=u.heap.size:=⟨_,rfl⟩
 have hne:q≠wb:=by omega
 have hne1:q+1≠wb:=by omega
 have HKW:=ad hKW
 have HY0:Hid (W.heap[q]?=some (.cells #[ae y.k,ae y.n,af y.s,.slice y.A y.len y.cap] 27 (0,0))):=ad (by rw[hq];exact hKW.y0)
 have HO0:Hid (W.heap[q+1]?=some (.cells #[ae o.side,ae o.pri,af o.name,.bool o.left,.bool o.right] 218 (0,0))):=ad (by rw[hq];exact hKW.o0)
 have HAL:Hid (∀v,aE W v->Calls prog 27 #[ah wb,.string ⟨#[40]⟩] v fun e v'=>e=am/\cw v' B wb bt way (acc++[40])/\Fr (bJ W B wb) W v'):=ad fun v hv=>by
  have hk:=hKW.k.later hv
  refine(cM v B wb bt way acc [40] hk.at' hk.bu (by simp only[List.length_cons,List.length_nil];omega)).mono ?_
  rintro e v' ⟨rfl,h1,h2⟩
  exact⟨rfl,h1,bJ.trans (Fr.of_below _ hv) h2⟩
 have HTM:Hid (∀v acc2,cw v B wb bt way acc2->Fr (bJ W B wb) W v->acc2.length<=acc.length+1->Calls prog 28 #[ah wb,.agg #[ae y.k,ae y.n,af y.s,.slice y.A y.len y.cap],ae 1200] v fun e v'=>e=am/\cw v' B wb bt way (acc2++g ty 1200)/\Fr (bJ W B wb) W v'):=ad fun v acc2 ha hf hl=>by
  rw[hg,<-aN]
  refine(hC v B0 B wb bt bm acc2 y ty 1200 hn hw (hKW.tm.blw (hKW.k.low hf)) (hKW.k.next ha hf) (by omega)).mono ?_
  rintro e v' ⟨rfl,h1,h2⟩
  exact⟨rfl,h1,bJ.trans hf h2⟩
 have HAR:Hid (∀v acc2,cw v B wb bt way acc2->Fr (bJ W B wb) W v->acc2.length<=100000000*600->Calls prog 27 #[ah wb,.string ⟨#[41]⟩] v fun e v'=>e=am/\cw v' B wb bt way (acc2++[41])/\Fr (bJ W B wb) W v'):=ad fun v acc2 ha hf hl=>by
  have hk:=hKW.k.next ha hf
  refine(cM v B wb bt way acc2 [41] hk.at' hk.bu (by simp only[List.length_cons,List.length_nil];omega)).mono ?_
  rintro e v' ⟨rfl,h1,h2⟩
  exact⟨rfl,h1,bJ.trans hf h2⟩
 have HGL:Hid ((acc++[40]++g ty 1200).length<=100000000*600):=ad (by
  have h1:=fZ es way ty.size ty 1200 aC hw
  rw[hg]
  simp only[List.length_append,List.length_cons,List.length_nil]
  omega)
 have HF1:Hid (dO es way ty o same=true->F=acc++[40]++g ty 1200++[41]):=ad fun h=>by
  rw[hF];unfold aZ;rw[if_pos h];simp
 have HF0:Hid (dO es way ty o same=false->F=acc++g ty 1200):=ad fun h=>by
  rw[hF];unfold aZ;rw[if_neg (by rw[h];simp)]
 have HIS:Hid (∀v,aE W v->Calls prog 308 #[ah bt,af y.s] v fun e v'=>e=.returned (.bool (wS es y.s))/\aE W v'):=ad fun v hv=>by
  have hk:=hKW.k.later hv
  refine(AP v bt bm es hk.env.tab y.s (by unfold gP maxLen;rw[<-k3];omega)).mono ?_
  rintro e v' ⟨rfl,hb'⟩
  exact⟨rfl,hv.trans (hb'.mono hv.size)⟩
 have HOP:Hid (∀v,aE W v->Calls prog 140 #[ah wb,.agg #[ae y.k,ae y.n,af y.s,.slice y.A y.len y.cap]] v fun e v'=>e=.returned (ik (dY es way ty))/\aE W v'):=ad fun v hv=>by
  have hk:=hKW.k.later hv
  rw[<-aN]
  refine(jA v B wb bt bm es way acc hk.at' hk.env B0 y ty (hKW.tm.blw (hKW.k.low (Fr.of_below _ hv))) (Nat.le_trans hk.b0B hk.bu) (by rw[<-k3];exact hnm)).mono ?_
  rintro e v' ⟨rfl,hb'⟩
  exact⟨rfl,hv.trans (hb'.mono hv.size)⟩
 have hfin:∀v,Fr (bJ W B wb) W v->Fr (bJ u B wb) u v:=fun v hv=>bJ.trans (Fr.of_below _ hKW.fr) hv
 have HFIN:=ad hfin
 have HW3:Hid (y.k=3->dO es way ty o same=wS es y.s):=ad fun h=>by unfold dO;rw[k1,k3,if_pos h]
 have HW2:Hid (y.k=2->dO es way ty o same=decide (y.n<0)):=ad fun h=>by unfold dO;rw[k1,k2,if_neg (by omega),if_pos h]
 have HW1:Hid (y.k=1->dO es way ty o same=false):=ad fun h=>by unfold dO;rw[k1,if_neg (by omega),if_neg (by omega),if_neg (by omega)]
 have HW0:Hid (y.k=4->dY es way ty=none->dO es way ty o same=false):=ad fun h h2=>by unfold dO;rw[k1,if_neg (by omega),if_neg (by omega),if_pos h,h2]
 have HW4:Hid (∀p,y.k=4->dY es way ty=some p->dO es way ty o same=(decide (o.pri<=p.pri)&& !(same&&(decide (p.side=2)&&decide (p.name=o.name))))):=ad fun p h h2=>by unfold dO;rw[k1,if_neg (by omega),if_neg (by omega),if_pos h,h2]
 obtain⟨O,hO⟩:∃O,O=dY es way ty:=⟨_,rfl⟩
 rw[<-hO]at HW0 HW4 HOP
 obtain⟨I,hI⟩:∃I,I=dO es way ty o same:=⟨_,rfl⟩
 rw[<-hI]at HW0 HW1 HW2 HW3 HW4 HF1 HF0
 obtain⟨c3,c2,c1⟩:=hKW.k.put3
 unfold gj at c3
 obtain⟨f0,f1,f2,f3,-⟩:=aH HY0.out
 obtain⟨z0,z1,z2,z3,z4,-⟩:=bw HO0.out
 have hbr:=Below.refl W.heap.size W
 have hqW:q+1<W.heap.size:=(ap HO0.out).1
 have cc:∀(p:Addr) (v:Value),W.cell? p=some v->∀u,aE W u->u.cell? p=some v:=fun p v h u hb=>(World.cell?_of_block (hb.block _ (World.block_lt_of_cell? W _ h))).trans h
 have HCELL:Hid (∀v,aE W v->v.cell? (ak wb 3)=some (.func (.func 27) #[ah wb] #[])/\v.cell? (ak q 0)=some (ae y.k)/\v.cell? (ak q 1)=some (ae y.n)/\v.cell? (ak q 2)=some (af y.s)/\v.cell? (ak q 3)=some (.slice y.A y.len y.cap)):=ad fun v hv=>⟨cc _ _ c3 v hv,cc _ _ f0 v hv,cc _ _ f1 v hv,cc _ _ f2 v hv,cc _ _ f3 v hv⟩
 have HCELF:Hid (∀v acc2,cw v B wb bt way acc2->Fr (bJ W B wb) W v->v.cell? (ak wb 3)=some (.func (.func 27) #[ah wb] #[])/\v.cell? (ak q 0)=some (ae y.k)/\v.cell? (ak q 1)=some (ae y.n)/\v.cell? (ak q 2)=some (af y.s)/\v.cell? (ak q 3)=some (.slice y.A y.len y.cap)):=ad fun v acc2 ha hf=>by
  obtain⟨r,-,-⟩:=(HKW.k.next ha hf).put3
  obtain⟨g0,g1,g2,g3,-⟩:=aH (bJ.keep hf HY0.out (by decide) hne)
  exact⟨r,g0,g1,g2,g3⟩
 have hkk:y.k=1\/y.k=2\/y.k=3\/y.k=4:=by rw[<-k1];exact hkind
 have hsides:∀p,O=some p->True:=fun _ _=>trivial
 clear hsides hC hn hw hy hK hlen k1 k2 k3 k4 k5 hg hF hnm hkind hKW hfin hO hI cc hlt
 rw[aN]
 unfold pH
 rcases hkk with hk|hk|hk|hk
 ·have b1:(y.k==3)=false:=by rw[hk];rfl
  have b2:(y.k==2)=false:=by rw[hk];rfl
  have b3:(y.k==4)=false:=by rw[hk];rfl
  have HI0:Hid (I=false):=ad (HW1.out hk)
  clear hk
  go_enter func233,ntmps233
  go_upto_region 1 with fail
  rw[<-hW,<-hq]
  clear hW hq
  clear c1 c2 c3 f0 f1 f2 f3 z0 z1 z2 z3 z4
  obtain⟨c3,f0,f1,f2,f3⟩:=HCELL.out W hbr
  go_wp2_with fail
  refine(HTM.out W acc (HKW.k.later hbr).at' (Fr.of_below _ hbr) (by omega)).mono ?_
  rintro e W8 ⟨rfl,h1,h2⟩
  go_wp2_with fail
  go_end0
  exact⟨rfl,by rw[HF0.out HI0.out];exact h1,HFIN.out _ h2⟩
 ·have b1:(y.k==3)=false:=by rw[hk];rfl
  have b2:(y.k==2)=true:=by rw[hk];rfl
  by_cases hneg:y.n<0
  ·have HI0:Hid (I=true):=ad (by rw[HW2.out hk];exact decide_eq_true hneg)
   have hd:decide (y.n<0)=true:=decide_eq_true hneg
   have HNEG:=ad hneg
   clear hk
   go_enter func233,ntmps233
   go_upto_region 1 with fail
   rw[<-hW,<-hq]
   clear hW hq
   clear c1 c2 c3 f0 f1 f2 f3 z0 z1 z2 z3 z4
   obtain⟨c3,f0,f1,f2,f3⟩:=HCELL.out W hbr
   go_wp2_with fail
   refine(HAL.out W hbr).mono ?_
   rintro e W7 ⟨rfl,h1,h2⟩
   clear c3 f0 f1 f2 f3
   obtain⟨c3,f0,f1,f2,f3⟩:=HCELF.out W7 _ h1 h2
   go_wp2_with fail
   refine(HTM.out W7 _ h1 h2 (by simp)).mono ?_
   rintro e W8 ⟨rfl,h3,h4⟩
   clear c3 f0 f1 f2 f3
   obtain⟨c3,f0,f1,f2,f3⟩:=HCELF.out W8 _ h3 h4
   go_wp2_with fail
   refine(HAR.out W8 _ h3 h4 HGL.out).mono ?_
   rintro e W9 ⟨rfl,h5,h6⟩
   go_wp2_with fail
   go_end0
   exact⟨rfl,by rw[HF1.out HI0.out];exact h5,HFIN.out _ h6⟩
  ·have HI0:Hid (I=false):=ad (by rw[HW2.out hk];exact decide_eq_false hneg)
   have hd:decide (y.n<0)=false:=decide_eq_false hneg
   have HNEG:=ad hneg
   clear hk
   go_enter func233,ntmps233
   go_upto_region 1 with fail
   rw[<-hW,<-hq]
   clear hW hq
   clear c1 c2 c3 f0 f1 f2 f3 z0 z1 z2 z3 z4
   obtain⟨c3,f0,f1,f2,f3⟩:=HCELL.out W hbr
   go_wp2_with fail
   refine(HTM.out W acc (HKW.k.later hbr).at' (Fr.of_below _ hbr) (by omega)).mono ?_
   rintro e W8 ⟨rfl,h1,h2⟩
   go_wp2_with fail
   go_end0
   exact⟨rfl,by rw[HF0.out HI0.out];exact h1,HFIN.out _ h2⟩
 ·have b1:(y.k==3)=true:=by rw[hk];rfl
  obtain⟨J,hJ⟩:∃J,J=wS es y.s:=⟨_,rfl⟩
  rw[<-hJ]at HIS HW3
  have HIJ:Hid (I=J):=ad (HW3.out hk)
  clear hk hJ
  have HSS:Hid (∀v,aE W v->v.cell? (ak wb 2)=some (ah bt)/\v.cell? (ak q 2)=some (af y.s)):=ad fun v hv=>⟨(HKW.k.later hv).put3.2.1,(HCELL.out v hv).2.2.2.1⟩
  have hbd:aE W W.drew:=(Below.refl W.heap.size W).drew
  go_enter func233,ntmps233
  go_upto_region 1 with fail
  rw[<-hW,<-hq]
  clear hW hq
  go_upto_region 4 with fail
  go_region_held3 (fun v=>v.cell? (ak wb 2)=some (ah bt)/\v.cell? (ak q 2)=some (af y.s))
   (first|(with_reducible exact HSS.out _ (by assumption)))
   (first|(go_at_call 308;with_reducible refine(HIS.out _ (by assumption)).mono ?_;rintro e W1 ⟨rfl,hb1⟩))
  cases J
  ·have HI0:=HIJ
   clear c1 c2 c3 f0 f1 f2 f3 z0 z1 z2 z3 z4
   obtain⟨c3,f0,f1,f2,f3⟩:=HCELL.out W1 hb1
   go_wp2_with fail
   refine(HTM.out W1 acc (HKW.k.later hb1).at' (Fr.of_below _ hb1) (by omega)).mono ?_
   rintro e W8 ⟨rfl,h1,h2⟩
   go_wp2_with fail
   go_end0
   exact⟨rfl,by rw[HF0.out HI0.out];exact h1,HFIN.out _ h2⟩
  ·have HI0:=HIJ
   clear c1 c2 c3 f0 f1 f2 f3 z0 z1 z2 z3 z4
   obtain⟨c3,f0,f1,f2,f3⟩:=HCELL.out W1 hb1
   go_wp2_with fail
   refine(HAL.out W1 hb1).mono ?_
   rintro e W7 ⟨rfl,h1,h2⟩
   clear c3 f0 f1 f2 f3
   obtain⟨c3,f0,f1,f2,f3⟩:=HCELF.out W7 _ h1 h2
   go_wp2_with fail
   refine(HTM.out W7 _ h1 h2 (by simp)).mono ?_
   rintro e W8 ⟨rfl,h3,h4⟩
   clear c3 f0 f1 f2 f3
   obtain⟨c3,f0,f1,f2,f3⟩:=HCELF.out W8 _ h3 h4
   go_wp2_with fail
   refine(HAR.out W8 _ h3 h4 HGL.out).mono ?_
   rintro e W9 ⟨rfl,h5,h6⟩
   go_wp2_with fail
   go_end0
   exact⟨rfl,by rw[HF1.out HI0.out];exact h5,HFIN.out _ h6⟩
 ·have b1:(y.k==3)=false:=by rw[hk];rfl
  have b2:(y.k==2)=false:=by rw[hk];rfl
  have b3:(y.k==4)=true:=by rw[hk];rfl
  cases O with
  |none=>
   have HOPN:Hid (∀v,aE W v->Calls prog 140 #[ah wb,.agg #[ae y.k,ae y.n,af y.s,.slice y.A y.len y.cap]] v fun e v'=>e=.returned (.tuple #[.agg #[ae 0,ae 0,ai,.bool false,.bool false],.bool false])/\aE W v'):=HOP
   have HI0:Hid (I=false):=ad (HW0.out hk rfl)
   clear hk
   go_enter func233,ntmps233
   go_upto_region 1 with fail
   rw[<-hW,<-hq]
   clear hW hq
   go_upto_region 8 with fail
   go_wp2_with fail
   refine(HOPN.out W hbr).mono ?_
   rintro e W1 ⟨rfl,hb1⟩
   go_upto_region 9 with fail
   have HB1:=ad hb1
   obtain⟨V,hV⟩:∃V,V=W1.alloc (.cells #[ae 0,ae 0,ai,.bool false,.bool false] 218):=⟨_,rfl⟩
   have hbV:aE W V:=by rw[hV];exact hb1.alloc hb1.size _
   have hp0:V.heap[W1.heap.size]?=some (.cells #[ae 0,ae 0,ai,.bool false,.bool false] 218 (0,0)):=by rw[hV];exact az
   have ho0:V.heap[q+1]?=_:=(hbV.block (q+1) hqW).trans HO0.out
   rw[<-hV]
   clear hV hb1 z0 z1 z2 z3 z4
   obtain⟨z0,z1,z2,z3,z4,-⟩:=bw ho0
   obtain⟨x0,x1,x2,x3,x4,-⟩:=bw hp0
   have HP0:=ad hp0
   clear hp0 ho0
   clear c1 c2 c3 f0 f1 f2 f3
   obtain⟨c3,f0,f1,f2,f3⟩:=HCELL.out V hbV
   go_wp2_with fail
   refine(HTM.out V acc (HKW.k.later hbV).at' (Fr.of_below _ hbV) (by omega)).mono ?_
   rintro e W8 ⟨rfl,h1,h2⟩
   go_wp2_with fail
   go_end0
   exact⟨rfl,by rw[HF0.out HI0.out];exact h1,HFIN.out _ h2⟩
  |some p=>
   obtain⟨ps,pp,pn,pl,pr⟩:=p
   by_cases hge:o.pri<=pp
   ·cases same
    ·have HI0:Hid (I=true):=ad (by rw[HW4.out ⟨ps,pp,pn,pl,pr⟩ hk rfl];rw[decide_eq_true hge];rfl)
     have hg1:decide (o.pri<=pp)=true:=decide_eq_true hge
     have HOPN:Hid (∀v,aE W v->Calls prog 140 #[ah wb,.agg #[ae y.k,ae y.n,af y.s,.slice y.A y.len y.cap]] v fun e v'=>e=.returned (.tuple #[.agg #[ae ps,ae pp,af pn,.bool pl,.bool pr],.bool true])/\aE W v'):=HOP
     have HGE:=ad hge
     clear hge
     clear hk
     go_enter func233,ntmps233
     go_upto_region 1 with fail
     rw[<-hW,<-hq]
     clear hW hq
     go_upto_region 8 with fail
     go_wp2_with fail
     refine(HOPN.out W hbr).mono ?_
     rintro e W1 ⟨rfl,hb1⟩
     go_upto_region 9 with fail
     have HB1:=ad hb1
     obtain⟨V,hV⟩:∃V,V=W1.alloc (.cells #[ae ps,ae pp,af pn,.bool pl,.bool pr] 218):=⟨_,rfl⟩
     have hbV:aE W V:=by rw[hV];exact hb1.alloc hb1.size _
     have hp0:V.heap[W1.heap.size]?=some (.cells #[ae ps,ae pp,af pn,.bool pl,.bool pr] 218 (0,0)):=by rw[hV];exact az
     have ho0:V.heap[q+1]?=_:=(hbV.block (q+1) hqW).trans HO0.out
     rw[<-hV]
     clear hV hb1 z0 z1 z2 z3 z4
     obtain⟨z0,z1,z2,z3,z4,-⟩:=bw ho0
     obtain⟨x0,x1,x2,x3,x4,-⟩:=bw hp0
     have HP0:=ad hp0
     clear hp0 ho0
     clear c1 c2 c3 f0 f1 f2 f3
     obtain⟨c3,f0,f1,f2,f3⟩:=HCELL.out V hbV
     go_wp2_with fail
     refine(HAL.out V hbV).mono ?_
     rintro e W7 ⟨rfl,h1,h2⟩
     clear c3 f0 f1 f2 f3
     obtain⟨c3,f0,f1,f2,f3⟩:=HCELF.out W7 _ h1 h2
     go_wp2_with fail
     refine(HTM.out W7 _ h1 h2 (by simp)).mono ?_
     rintro e W8 ⟨rfl,h3,h4⟩
     clear c3 f0 f1 f2 f3
     obtain⟨c3,f0,f1,f2,f3⟩:=HCELF.out W8 _ h3 h4
     go_wp2_with fail
     refine(HAR.out W8 _ h3 h4 HGL.out).mono ?_
     rintro e W9 ⟨rfl,h5,h6⟩
     go_wp2_with fail
     go_end0
     exact⟨rfl,by rw[HF1.out HI0.out];exact h5,HFIN.out _ h6⟩
    ·by_cases hps:ps=2
     ·by_cases hpn:pn=o.name
      ·have HI0:Hid (I=false):=ad (by rw[HW4.out ⟨ps,pp,pn,pl,pr⟩ hk rfl];rw[decide_eq_true hge,decide_eq_true hps,decide_eq_true hpn];rfl)
       have hg1:decide (o.pri<=pp)=true:=decide_eq_true hge
       have hs1:(ps==2)=true:=by rw[hps];rfl
       have hn1:(pn==o.name)=true:=by rw[hpn];simp
       have HOPN:Hid (∀v,aE W v->Calls prog 140 #[ah wb,.agg #[ae y.k,ae y.n,af y.s,.slice y.A y.len y.cap]] v fun e v'=>e=.returned (.tuple #[.agg #[ae ps,ae pp,af pn,.bool pl,.bool pr],.bool true])/\aE W v'):=HOP
       have HGE:=ad hge
       have HPS:=ad hps
       have HPN:=ad hpn
       clear hge hps hpn
       clear hk
       go_enter func233,ntmps233
       go_upto_region 1 with fail
       rw[<-hW,<-hq]
       clear hW hq
       go_upto_region 8 with fail
       go_wp2_with fail
       refine(HOPN.out W hbr).mono ?_
       rintro e W1 ⟨rfl,hb1⟩
       go_upto_region 9 with fail
       have HB1:=ad hb1
       obtain⟨V,hV⟩:∃V,V=W1.alloc (.cells #[ae ps,ae pp,af pn,.bool pl,.bool pr] 218):=⟨_,rfl⟩
       have hbV:aE W V:=by rw[hV];exact hb1.alloc hb1.size _
       have hp0:V.heap[W1.heap.size]?=some (.cells #[ae ps,ae pp,af pn,.bool pl,.bool pr] 218 (0,0)):=by rw[hV];exact az
       have ho0:V.heap[q+1]?=_:=(hbV.block (q+1) hqW).trans HO0.out
       rw[<-hV]
       clear hV hb1 z0 z1 z2 z3 z4
       obtain⟨z0,z1,z2,z3,z4,-⟩:=bw ho0
       obtain⟨x0,x1,x2,x3,x4,-⟩:=bw hp0
       have HP0:=ad hp0
       clear hp0 ho0
       clear c1 c2 c3 f0 f1 f2 f3
       obtain⟨c3,f0,f1,f2,f3⟩:=HCELL.out V hbV
       go_wp2_with fail
       refine(HTM.out V acc (HKW.k.later hbV).at' (Fr.of_below _ hbV) (by omega)).mono ?_
       rintro e W8 ⟨rfl,h1,h2⟩
       go_wp2_with fail
       go_end0
       exact⟨rfl,by rw[HF0.out HI0.out];exact h1,HFIN.out _ h2⟩
      ·have HI0:Hid (I=true):=ad (by rw[HW4.out ⟨ps,pp,pn,pl,pr⟩ hk rfl];rw[decide_eq_true hge,decide_eq_true hps,decide_eq_false hpn];rfl)
       have hg1:decide (o.pri<=pp)=true:=decide_eq_true hge
       have hs1:(ps==2)=true:=by rw[hps];rfl
       have hn1:(pn==o.name)=false:=beq_eq_false_iff_ne.2 hpn
       have HOPN:Hid (∀v,aE W v->Calls prog 140 #[ah wb,.agg #[ae y.k,ae y.n,af y.s,.slice y.A y.len y.cap]] v fun e v'=>e=.returned (.tuple #[.agg #[ae ps,ae pp,af pn,.bool pl,.bool pr],.bool true])/\aE W v'):=HOP
       have HGE:=ad hge
       have HPS:=ad hps
       have HPN:=ad hpn
       clear hge hps hpn
       clear hk
       go_enter func233,ntmps233
       go_upto_region 1 with fail
       rw[<-hW,<-hq]
       clear hW hq
       go_upto_region 8 with fail
       go_wp2_with fail
       refine(HOPN.out W hbr).mono ?_
       rintro e W1 ⟨rfl,hb1⟩
       go_upto_region 9 with fail
       have HB1:=ad hb1
       obtain⟨V,hV⟩:∃V,V=W1.alloc (.cells #[ae ps,ae pp,af pn,.bool pl,.bool pr] 218):=⟨_,rfl⟩
       have hbV:aE W V:=by rw[hV];exact hb1.alloc hb1.size _
       have hp0:V.heap[W1.heap.size]?=some (.cells #[ae ps,ae pp,af pn,.bool pl,.bool pr] 218 (0,0)):=by rw[hV];exact az
       have ho0:V.heap[q+1]?=_:=(hbV.block (q+1) hqW).trans HO0.out
       rw[<-hV]
       clear hV hb1 z0 z1 z2 z3 z4
       obtain⟨z0,z1,z2,z3,z4,-⟩:=bw ho0
       obtain⟨x0,x1,x2,x3,x4,-⟩:=bw hp0
       have HP0:=ad hp0
       clear hp0 ho0
       clear c1 c2 c3 f0 f1 f2 f3
       obtain⟨c3,f0,f1,f2,f3⟩:=HCELL.out V hbV
       go_wp2_with fail
       refine(HAL.out V hbV).mono ?_
       rintro e W7 ⟨rfl,h1,h2⟩
       clear c3 f0 f1 f2 f3
       obtain⟨c3,f0,f1,f2,f3⟩:=HCELF.out W7 _ h1 h2
       go_wp2_with fail
       refine(HTM.out W7 _ h1 h2 (by simp)).mono ?_
       rintro e W8 ⟨rfl,h3,h4⟩
       clear c3 f0 f1 f2 f3
       obtain⟨c3,f0,f1,f2,f3⟩:=HCELF.out W8 _ h3 h4
       go_wp2_with fail
       refine(HAR.out W8 _ h3 h4 HGL.out).mono ?_
       rintro e W9 ⟨rfl,h5,h6⟩
       go_wp2_with fail
       go_end0
       exact⟨rfl,by rw[HF1.out HI0.out];exact h5,HFIN.out _ h6⟩
     ·have HI0:Hid (I=true):=ad (by rw[HW4.out ⟨ps,pp,pn,pl,pr⟩ hk rfl];rw[decide_eq_true hge,decide_eq_false hps];rfl)
      have hg1:decide (o.pri<=pp)=true:=decide_eq_true hge
      have hs1:(ps==2)=false:=beq_eq_false_iff_ne.2 hps
      have HOPN:Hid (∀v,aE W v->Calls prog 140 #[ah wb,.agg #[ae y.k,ae y.n,af y.s,.slice y.A y.len y.cap]] v fun e v'=>e=.returned (.tuple #[.agg #[ae ps,ae pp,af pn,.bool pl,.bool pr],.bool true])/\aE W v'):=HOP
      have HGE:=ad hge
      have HPS:=ad hps
      clear hge hps
      clear hk
      go_enter func233,ntmps233
      go_upto_region 1 with fail
      rw[<-hW,<-hq]
      clear hW hq
      go_upto_region 8 with fail
      go_wp2_with fail
      refine(HOPN.out W hbr).mono ?_
      rintro e W1 ⟨rfl,hb1⟩
      go_upto_region 9 with fail
      have HB1:=ad hb1
      obtain⟨V,hV⟩:∃V,V=W1.alloc (.cells #[ae ps,ae pp,af pn,.bool pl,.bool pr] 218):=⟨_,rfl⟩
      have hbV:aE W V:=by rw[hV];exact hb1.alloc hb1.size _
      have hp0:V.heap[W1.heap.size]?=some (.cells #[ae ps,ae pp,af pn,.bool pl,.bool pr] 218 (0,0)):=by rw[hV];exact az
      have ho0:V.heap[q+1]?=_:=(hbV.block (q+1) hqW).trans HO0.out
      rw[<-hV]
      clear hV hb1 z0 z1 z2 z3 z4
      obtain⟨z0,z1,z2,z3,z4,-⟩:=bw ho0
      obtain⟨x0,x1,x2,x3,x4,-⟩:=bw hp0
      have HP0:=ad hp0
      clear hp0 ho0
      clear c1 c2 c3 f0 f1 f2 f3
      obtain⟨c3,f0,f1,f2,f3⟩:=HCELL.out V hbV
      go_wp2_with fail
      refine(HAL.out V hbV).mono ?_
      rintro e W7 ⟨rfl,h1,h2⟩
      clear c3 f0 f1 f2 f3
      obtain⟨c3,f0,f1,f2,f3⟩:=HCELF.out W7 _ h1 h2
      go_wp2_with fail
      refine(HTM.out W7 _ h1 h2 (by simp)).mono ?_
      rintro e W8 ⟨rfl,h3,h4⟩
      clear c3 f0 f1 f2 f3
      obtain⟨c3,f0,f1,f2,f3⟩:=HCELF.out W8 _ h3 h4
      go_wp2_with fail
      refine(HAR.out W8 _ h3 h4 HGL.out).mono ?_
      rintro e W9 ⟨rfl,h5,h6⟩
      go_wp2_with fail
      go_end0
      exact⟨rfl,by rw[HF1.out HI0.out];exact h5,HFIN.out _ h6⟩
   ·have HI0:Hid (I=false):=ad (by rw[HW4.out ⟨ps,pp,pn,pl,pr⟩ hk rfl];rw[decide_eq_false hge];rfl)
    have hg1:decide (o.pri<=pp)=false:=decide_eq_false hge
    have HOPN:Hid (∀v,aE W v->Calls prog 140 #[ah wb,.agg #[ae y.k,ae y.n,af y.s,.slice y.A y.len y.cap]] v fun e v'=>e=.returned (.tuple #[.agg #[ae ps,ae pp,af pn,.bool pl,.bool pr],.bool true])/\aE W v'):=HOP
    have HGE:=ad hge
    clear hge
    clear hk
    go_enter func233,ntmps233
    go_upto_region 1 with fail
    rw[<-hW,<-hq]
    clear hW hq
    go_upto_region 8 with fail
    go_wp2_with fail
    refine(HOPN.out W hbr).mono ?_
    rintro e W1 ⟨rfl,hb1⟩
    go_upto_region 9 with fail
    have HB1:=ad hb1
    obtain⟨V,hV⟩:∃V,V=W1.alloc (.cells #[ae ps,ae pp,af pn,.bool pl,.bool pr] 218):=⟨_,rfl⟩
    have hbV:aE W V:=by rw[hV];exact hb1.alloc hb1.size _
    have hp0:V.heap[W1.heap.size]?=some (.cells #[ae ps,ae pp,af pn,.bool pl,.bool pr] 218 (0,0)):=by rw[hV];exact az
    have ho0:V.heap[q+1]?=_:=(hbV.block (q+1) hqW).trans HO0.out
    rw[<-hV]
    clear hV hb1 z0 z1 z2 z3 z4
    obtain⟨z0,z1,z2,z3,z4,-⟩:=bw ho0
    obtain⟨x0,x1,x2,x3,x4,-⟩:=bw hp0
    have HP0:=ad hp0
    clear hp0 ho0
    clear c1 c2 c3 f0 f1 f2 f3
    obtain⟨c3,f0,f1,f2,f3⟩:=HCELL.out V hbV
    go_wp2_with fail
    refine(HTM.out V acc (HKW.k.later hbV).at' (Fr.of_below _ hbV) (by omega)).mono ?_
    rintro e W8 ⟨rfl,h1,h2⟩
    go_wp2_with fail
    go_end0
    exact⟨rfl,by rw[HF0.out HI0.out];exact h1,HFIN.out _ h2⟩
end
end Go.Proofs.YtigeofkllldilaaGreatDoor
