import Derived.Test.YtigeofkllldilaaGreatDoorJM08
import Derived.Test.YtigeofkllldilaaGreatDoorJM14
set_option maxHeartbeats 32000000
set_option maxRecDepth 100000
set_option linter.unusedSectionVars false
open Go.Proofs.Tryz
namespace Go.Proofs.YtigeofkllldilaaGreatDoor
section
open Go.RowKit
theorem E4:bits BinOp.or .u64 0 4=4:=by decide+kernel
theorem Fw:bits BinOp.or .u64 4 8=12:=by decide+kernel
theorem FB:bits BinOp.or .u64 12 16=28:=by decide+kernel
theorem Ff:bits BinOp.or .u64 0 32=32:=by decide+kernel
theorem yy (w:World) (g:Nat) (n set:Int) (hn:(n=2/\set=4)\/(n=5/\set=32)) (h0:w.cell? (ak g 0)=some (ae n)):
 Calls prog 304 #[al g 1 1] w fun e w'=>e=.returned (.agg #[.int .u64 set])/\aE w w':=by
 have hg:g<w.heap.size:=World.block_lt_of_cell? w _ h0
 have ha:=E4
 have hd:=Ff
 rcases hn with⟨rfl,rfl⟩|⟨rfl,rfl⟩
 all_goals
  go_enter func304,ntmps304
  go_wp2_with fail
  refine wp_loop_rounds 2 ?_
  rw[rounds_succ]
  go_wp2
  rw[rounds_succ]
  go_wp2
  refine bodyPost_ret (v:=.agg #[.int .u64 _]) (by simp[results,results304,go_sem]) rfl ⟨rfl,?_⟩
  exact aB.alloc (by simp) _
theorem Bc (w:World) (g:Nat) (h0:w.cell? (ak g 0)=some (ae 2)) (h1:w.cell? (ak g 1)=some (ae 3)) (h2:w.cell? (ak g 2)=some (ae 4)):
 Calls prog 304 #[al g 3 3] w fun e w'=>e=.returned (.agg #[.int .u64 28])/\aE w w':=by
 have hg:g<w.heap.size:=World.block_lt_of_cell? w _ h0
 have ha:=E4
 have hb:=Fw
 have hc:=FB
 go_enter func304,ntmps304
 go_wp2_with fail
 refine wp_loop_rounds 4 ?_
 rw[rounds_succ]
 go_wp2
 rw[rounds_succ]
 go_wp2
 rw[rounds_succ]
 go_wp2
 rw[rounds_succ]
 go_wp2
 refine bodyPost_ret (v:=.agg #[.int .u64 28]) (by simp[results,results304,go_sem]) rfl ⟨rfl,?_⟩
 exact aB.alloc (by simp) _
def nj (set:Int) (c:UInt8):Bool:=if set=4 then decide (fT c=2)else if set=28 then qo c else px c
theorem B2 (w:World) (c:UInt8) (k:Int) (hk:fT c=k):Calls prog 112 #[.int .u8 (c.toNat:Int)] w fun e w'=>e=.returned (ae k)/\w'=w:=
 (xI w c).mono fun e w' h=>⟨by rw[<-hk];exact h.1,h.2.symm⟩
theorem kj (w:World) (set:Int) (c:UInt8) (hset:set=4\/set=28\/set=32):
 Calls prog 305 #[.agg #[.int .u64 set],.int .u8 (c.toNat:Int)] w fun e w'=>e=.returned (.bool (nj set c))/\aE w w':=by
 have hand:∀E:Int,0<=E->E<=18446744073709551615->bits BinOp.and .u64 E 1=E%2:=and_one_u64
 have hbd:=AB c
 obtain⟨k,hk⟩:∃k,fT c=k:=⟨_,rfl⟩
 have hR:nj set c=if set=4 then decide (k=2)else if set=28 then decide (k=2\/k=3\/k=4)else decide (k=5):=by
  unfold nj qo px
  rw[hk]
 rw[hR]
 rw[hk]at hbd
 have HK:=ad hk
 clear hR hk
 rcases(show k=0\/k=1\/k=2\/k=3\/k=4\/k=5\/k=6\/k=7\/k=8 by omega)with rfl|rfl|rfl|rfl|rfl|rfl|rfl|rfl|rfl
 all_goals
  rcases hset with rfl|rfl|rfl
  all_goals
   clear hbd
   go_enter func305,ntmps305
   go_wp2_with fail
   go_quiet ((go_at_call 112;exact Calls.quiet_of_same (B2 _ c _ HK.out)))
   go_wp2
   go_ret
   exact⟨rfl,below_drewN aB _⟩
theorem DC (p:UInt8->Bool):∀(l:List UInt8) (k:Nat),(l.take k).all p=true->∀c,l[k]?=some c->(p c=false->l.all p=false)/\(p c=true->(l.take (k+1)).all p=true):=by
 intro l k h c hc
 refine⟨fun h2=>?_,fun h2=>?_⟩
 ·rw[List.all_eq_false]
  exact⟨c,List.mem_of_getElem? hc,by simp[h2]⟩
 ·obtain⟨hk,rfl⟩:=aq hc
  rw[List.take_succ_eq_append_getElem hk,List.all_append,h]
  simp[h2]
theorem sk (w:World) (set:Int) (l:List UInt8) (hset:set=4\/set=28\/set=32) (hl:(l.length:Int)<=9223372036854775000):
 Calls prog 306 #[af l,.func (Fn.func 305) #[.agg #[.int .u64 set]] #[]] w fun e w'=>e=.returned (.bool (l.all (nj set)))/\aE w w':=by
 have HS:=ad hset
 clear hset
 go_enter func306,ntmps306
 go_wp2_with fail
 go_loopw [5] (fun i wr=>∃k:Nat,k<=l.length/\i=ae k/\Hid ((l.take k).all (nj set)=true)/\Hid (aE w wr)) (fun i _=>l.length-(intOf i).toNat)
 case atStart=>exact⟨0,Nat.zero_le _,rfl,ad (by simp),ad aA⟩
 case round=>
  obtain⟨k,hk,rfl,HA,HB⟩:=hrel
  by_cases hlt:k<l.length
  ·obtain⟨c,hd,hx,hg⟩:=kJ l k hlt
   have HG:=ad (DC (nj set) l k HA.out c hg)
   have hlt':(k:Int)<(l.length:Int):=by omega
   clear hd hg HA
   go_wp2_with fail
   refine(kj wr set c HS.out).mono ?_
   rintro e w' ⟨rfl,hb⟩
   have HB2:=ad (HB.trans (hb.mono HB.size))
   clear hb HB
   obtain⟨b,hb⟩:∃b,nj set c=b:=⟨_,rfl⟩
   rw[hb]
   have HG2:=HG.out
   rw[hb]at HG2
   cases b
   ·have HF:=ad (HG2.1 rfl)
    clear HG2 HG hb
    go_wp2_with fail
    go_ret
    exact⟨by rw[HF.out];rfl,HB2.out⟩
   ·have HF:=ad (HG2.2 rfl)
    clear HG2 HG hb
    go_wp2_with fail
    go_roundw
    case rel=>exact⟨k+1,hlt,by go_num,HF,HB2⟩
    case measure=>simp[intOf];omega
  ·have hkn:k=l.length:=by omega
   subst hkn
   have hA:=HA.out
   rw[List.take_length]at hA
   have HA2:=ad hA
   clear hA HA
   go_wp2_with fail
   go_ret
   exact⟨by rw[HA2.out];rfl,HB.out⟩
theorem kG {l m:List UInt8} (h:l≠m):(l==m)=false:=beq_eq_false_iff_ne.2 h
theorem tH (l:List UInt8):Lib.hasPrefix l [47,42]=(l.take 2==[47,42]):=by
 have e:∀x y:UInt8,(x==y)=(y==x):=fun x y=>by rw[Bool.eq_iff_iff,beq_iff_eq,beq_iff_eq];exact eq_comm
 unfold Lib.hasPrefix
 cases l with
 |nil=>rfl
 |cons a r=>
  cases r with
  |nil=>simp[List.isPrefixOf]
  |cons b r=>
   simp only[List.isPrefixOf,List.take_succ_cons,List.take_zero]
   rw[e 47 a,e 42 b]
   simp
theorem wV (w:World) (l:List UInt8) (hl:(l.length:Int)<=1000000):
 Calls prog 231 #[af l] w fun e w'=>e=.returned (.bool (kM l))/\aE w w':=by
 by_cases e1:l=[]
 ·subst e1
  go_enter func231,ntmps231
  go_wp2_with fail
  go_ret
  exact⟨rfl,aA⟩
 by_cases e2:l=[46]
 ·subst e2
  go_enter func231,ntmps231
  go_wp2_with fail
  go_ret
  exact⟨rfl,aA⟩
 by_cases e3:l=[91,93]
 ·subst e3
  go_enter func231,ntmps231
  go_wp2_with fail
  go_ret
  exact⟨rfl,aA⟩
 by_cases e4:l=[33]
 ·subst e4
  go_enter func231,ntmps231
  go_wp2_with fail
  go_ret
  exact⟨rfl,aA⟩
 by_cases e5:l=[59]
 ·subst e5
  go_enter func231,ntmps231
  go_wp2_with fail
  go_ret
  exact⟨rfl,aA⟩
 by_cases e6:l=[123,125]
 ·subst e6
  go_enter func231,ntmps231
  go_wp2_with fail
  go_ret
  exact⟨rfl,aA⟩
 have t1:l.isEmpty=false:=by simpa using e1
 have t2:=kG e2
 have t3:=kG e3
 have t4:=kG e4
 have t5:=kG e5
 have t6:=kG e6
 have hmf:∀(fn:Fn) (first cap:Array Value) (w:World),(Instr.makeFunc fn first cap).run prog w=.ok (.func fn first cap) w:=fun _ _ _ _=>rfl
 have h0:0<l.length:=List.length_pos_iff.2 e1
 obtain⟨c,hd,hx,hg⟩:=kJ l 0 h0
 have hP:kM l=if fT c=2 then l.all qo else !(l.take 2==[47,42])&&l.all px:=by
  have hc:l.headD 0=c:=by rw[List.drop_zero]at hd;rw[hd];rfl
  unfold kM
  rw[if_neg (by simp[e1,e2]),if_neg (by simp[e3,e4,e5,e6]),hc]
 have HP:=ad hP
 have HE:=ad (aD e1 e2)
 have h0':(0:Int)<(l.length:Int):=by omega
 clear hP e1 e2 e3 e4 e5 e6 hd hg
 go_enter func231,ntmps231
 go_wp2_with fail
 obtain⟨W1,hW1⟩:∃W1,w.alloc (.cells #[ae 2] 3)=W1:=⟨_,rfl⟩
 have hb1:aE w W1:=by rw[<-hW1];exact aB
 have hc1:W1.cell? (ak w.heap.size 0)=some (ae 2):=by rw[<-hW1];simp
 rw[hW1]
 refine(yy W1 w.heap.size 2 4 (.inl ⟨rfl,rfl⟩) hc1).mono ?_
 rintro e w2 ⟨rfl,hb2⟩
 have HB2:=ad (hb1.trans (hb2.mono hb1.size))
 clear hW1 hb1 hc1 hb2
 go_wp2_with fail
 refine(kj w2 4 c (.inl rfl)).mono ?_
 rintro e w3 ⟨rfl,hb3⟩
 have HB3:=ad (HB2.trans (hb3.mono HB2.size))
 clear hb3 HB2
 by_cases h2:fT c=2
 ·rw[show nj 4 c=true by simp[nj,h2]]
  have HP2:=HP.out
  rw[if_pos h2]at HP2
  have HQ:=ad HP2
  clear HP2 HP h2
  go_wp2_with fail
  obtain⟨W4,hW4⟩:∃W4,w3.alloc (.cells #[ae 2,ae 3,ae 4] 3)=W4:=⟨_,rfl⟩
  have hb4:aE w W4:=by rw[<-hW4];exact HB3.trans (aB.mono HB3.size)
  have k0:W4.cell? (ak w3.heap.size 0)=some (ae 2):=by rw[<-hW4];simp
  have k1:W4.cell? (ak w3.heap.size 1)=some (ae 3):=by rw[<-hW4];simp
  have k2:W4.cell? (ak w3.heap.size 2)=some (ae 4):=by rw[<-hW4];simp
  rw[hW4]
  refine(Bc W4 w3.heap.size k0 k1 k2).mono ?_
  rintro e w5 ⟨rfl,hb5⟩
  have HB5:=ad (hb4.trans (hb5.mono hb4.size))
  clear hW4 hb4 k0 k1 k2 hb5 HB3
  go_wp2_with fail
  refine(sk w5 28 l (.inr (.inl rfl)) (by omega)).mono ?_
  rintro e w6 ⟨rfl,hb6⟩
  have HB6:=ad (HB5.trans (hb6.mono HB5.size))
  clear hb6 HB5
  go_wp2_with fail
  go_ret
  exact⟨by rw[HQ.out];rfl,HB6.out⟩
 ·rw[show nj 4 c=false by simp[nj,h2]]
  have HP2:=HP.out
  rw[if_neg h2]at HP2
  have HQ:=ad HP2
  clear HP2 HP h2
  have hpre:Calls prog 119 #[af l,.string ⟨#[47,42]⟩] w3 fun e w'=>e=.returned (.bool (l.take 2==[47,42]))/\w'=w3:=by
   have:=Tryz.strings_HasPrefix ⟨l.toArray⟩ ⟨#[47,42]⟩ w3
   rw[<-tH]
   simpa using this
  have HPRE:=ad hpre
  clear hpre
  go_wp2_with fail
  refine HPRE.mono ?_
  rintro e w' ⟨rfl,rfl⟩
  clear HPRE
  obtain⟨b,hb⟩:∃b,(l.take 2==[47,42])=b:=⟨_,rfl⟩
  rw[hb]at HQ⊢
  clear hb
  cases b
  ·go_wp2_with fail
   obtain⟨W4,hW4⟩:∃W4,w'.alloc (.cells #[ae 5] 3)=W4:=⟨_,rfl⟩
   have hb4:aE w W4:=by rw[<-hW4];exact HB3.trans (aB.mono HB3.size)
   have k0:W4.cell? (ak w'.heap.size 0)=some (ae 5):=by rw[<-hW4];simp
   rw[hW4]
   refine(yy W4 w'.heap.size 5 32 (.inr ⟨rfl,rfl⟩) k0).mono ?_
   rintro e w5 ⟨rfl,hb5⟩
   have HB5:=ad (hb4.trans (hb5.mono hb4.size))
   clear hW4 hb4 k0 hb5 HB3
   go_wp2_with fail
   refine(sk w5 32 l (.inr (.inr rfl)) (by omega)).mono ?_
   rintro e w6 ⟨rfl,hb6⟩
   have HB6:=ad (HB5.trans (hb6.mono HB5.size))
   clear hb6 HB5
   go_wp2_with fail
   go_ret
   exact⟨by rw[HQ.out];rfl,HB6.out⟩
  ·go_wp2_with fail
   go_ret
   exact⟨by rw[HQ.out];rfl,HB3.out⟩
theorem CI:bits BinOp.and .u64 16 18446744073709551600=16:=by decide+kernel
theorem Ai (w:World) (ht:w.cell? (ak 6 15)=some (.int .u8 4)):
 Calls prog 385 #[.int .u64 16] w fun e w'=>e=.returned (ae 4)/\w=w':=by
 have hl:=CI
 have hw:IntKind.u64.wrap (-16)=18446744073709551600:=by decide+kernel
 have hv:IntKind.u64.wrap 4573923408821661840=4573923408821661840:=by decide+kernel
 go_enter func385,ntmps385
 go_wp2_with fail
 go_ret
 exact⟨rfl,rfl⟩
theorem zp (w:World) (ht:w.cell? (ak 6 15)=some (.int .u8 4)):
 Calls prog 361 #[.int .u64 16] w fun e w'=>e=.returned (ae 4)/\w=w':=by
 go_enter func361,ntmps361
 go_wp2_with fail
 refine(Ai w ht).mono ?_
 rintro e w' ⟨rfl,rfl⟩
 go_wp2_with fail
 go_ret
 exact⟨rfl,rfl⟩
theorem qZ:bits BinOp.and .i64 16 15=0:=by decide+kernel
theorem uR (w:World):Calls prog 360 #[ae 16] w fun e w'=>e=.returned (.bool true)/\w=w':=by
 have hl:=qZ
 go_enter func360,ntmps360
 go_wp2_with fail
 go_ret
 exact⟨rfl,rfl⟩
theorem yN:∀d:Nat,d<16->bits BinOp.and .u64 (d:Int) 15=(d:Int):=by
 intro d hd
 have h:=bits_and_u64_nat d 15 (by omega) (by omega)
 refine h.trans ?_
 have:∀d:Nat,d<16->d&&& 15=d:=by decide
 rw[this d hd]
theorem xQ:∀i:Nat,i<256->bits BinOp.and .u64 (i:Int) 15=((i%16:Nat):Int):=by
 intro i hi
 have h:=bits_and_u64_nat i 15 (by omega) (by omega)
 refine h.trans ?_
 have:∀i:Nat,i<256->i&&& 15=i%16:=by decide+kernel
 rw[this i hi]
def qR:List UInt8:=[48,49,50,51,52,53,54,55,56,57,97,98,99,100,101,102,103,104,105,106,107,108,109,110,111,112,113,114,115,116,117,118,119,120,121,122]
theorem zK:∀i:Nat,i<16->qR[i]?=some (bF i):=by decide
theorem jQ (i:Nat) (hi:i<16):(⟨#[48,49,50,51,52,53,54,55,56,57,97,98,99,100,101,102,103,104,105,106,107,108,109,110,111,112,113,114,115,116,117,118,119,120,121,122]⟩:ByteArray)[i]'(by show i<36;omega)=bF i:=by
 obtain⟨c,-,hx,hg⟩:=kJ qR i (by show i<36;omega)
 rw[zK i hi]at hg
 cases hg
 exact hx
theorem jc {w w':World} {v:Value} (ht:w.cell? (ak 6 15)=some v) (hb:aE w w'):w'.cell? (ak 6 15)=some v:=by
 rw[World.cell?_of_block (hb.block _ (World.block_lt_of_cell? w _ ht))]
 exact ht
theorem tQ (w:World) (B:Nat) (v:Value) (l:List UInt8) (i:Nat) (hi:i<16) (hl:(l.length:Int)<=1000000) (hrow:aS w B 5 1 bK v l) (hB:B<=w.heap.size) (ht:w.cell? (ak 6 15)=some (.int .u8 4)):
 Calls prog 303 #[v,.int .u64 (i:Int),ae 16,.bool false,.bool true] w fun e w'=>∃v',e=.returned (.tuple #[v',ai])/\aS w' B 5 1 bK v' (l++[bF i])/\Fr (fun k=>v.ownBlock=some k) w w':=by
 obtain⟨W1,hW1⟩:∃W1,w.alloc (.cells Tryz.zeroCells484 484)=W1:=⟨_,rfl⟩
 have ht1:W1.cell? (ak 6 15)=some (.int .u8 4):=jc ht (by rw[<-hW1];exact aB)
 have hz64:W1.cell? (ak w.heap.size 64)=some (.int .u8 0):=by rw[<-hW1];exact ey w _ _ 64 _ (by kernel_rfl)
 have hf64:W1.frozen? ⟨w.heap.size,64,none⟩=false:=by rw[<-hW1];simp
 have HT1:=ad ht1
 obtain⟨ti,tz,hti,htz,hsi,hby,hzs⟩:=lv
 have hs1:W1.heap.size=w.heap.size+1:=by rw[<-hW1];simp
 have HR:=ad hrow
 have hx:=jQ i hi
 have hi':(i:Int)<16:=by omega
 have ham:=yN i hi
 clear ht ht1 hrow
 go_enter func303,ntmps303
 go_wp2_with fail
 refine(uR _).mono ?_
 rintro e w1 ⟨rfl,rfl⟩
 go_wp2_with fail
 refine(zp _ HT1.out).mono ?_
 rintro e w1 ⟨rfl,rfl⟩
 go_wp2_with fail
 refine wp_loop_rounds 1 ?_
 rw[rounds_succ]
 have hnews:∀j u,([bF i].flatMap bK)[j]?=some u->(W1.setCell (ak w.heap.size 64) (.int .u8 ((bF i).toNat:Int))).cell? (ak w.heap.size (64+j))=some u:=by
  intro j u hu
  have hj:j=0:=by
   have:=(aq hu).1
   simp[bK]at this
   omega
  subst hj
  rw[World.cell?_setCell_same _ _ _ hz64]
  simpa[bK]using hu
 have HNW:=ad hnews
 clear hnews
 go_wp2_with (at_builtin;refine bY rfl _ _ 76 rfl _ B 5 ti tz 1 1 bK underlying76 hti htz hsi hby hzs (by decide) dy dd _ l [bF i] rfl ((HR.later (by rw[<-hW1];exact aB)).away _ (fun k hk=>by have:=(HR.lt k hk).2;simp only;omega)) w.heap.size 64 1 rfl HNW.out (by unfold maxLen;simp;omega) (by simp;omega) (by simp;omega) ?_)
 intro v' w5 hrow5 hg5
 have hF:Fr (fun k=>v.ownBlock=some k) w w5:=by
  refine Fr.grown (w':=W1.setCell (ak w.heap.size 64) (.int .u8 ((bF i).toNat:Int))) ?_ hg5 (fun g hg=>.inl hg)
  rw[<-hW1]
  exact((Fr.refl _ _).alloc _).setCell (.inr aC) _
 have HF:=ad hF
 have HR5:=ad hrow5
 clear hF hrow5 hg5 HNW hz64 hf64 hW1
 go_wp2_with fail
 go_ret2
 exact⟨_,rfl,HR5.out,HF.out⟩
theorem us (w:World) (B:Nat) (v:Value) (l:List UInt8) (i:Nat) (h16:16<=i) (hi:i<256) (hl:(l.length:Int)<=1000000) (hrow:aS w B 5 1 bK v l) (hB:B<=w.heap.size) (ht:w.cell? (ak 6 15)=some (.int .u8 4)):
 Calls prog 303 #[v,.int .u64 (i:Int),ae 16,.bool false,.bool true] w fun e w'=>∃v',e=.returned (.tuple #[v',ai])/\aS w' B 5 1 bK v' (l++[bF (i/16),bF (i%16)])/\Fr (fun k=>v.ownBlock=some k) w w':=by
 obtain⟨W1,hW1⟩:∃W1,w.alloc (.cells Tryz.zeroCells484 484)=W1:=⟨_,rfl⟩
 have ht1:W1.cell? (ak 6 15)=some (.int .u8 4):=jc ht (by rw[<-hW1];exact aB)
 have hz64:W1.cell? (ak w.heap.size 64)=some (.int .u8 0):=by rw[<-hW1];exact ey w _ _ 64 _ (by kernel_rfl)
 have hf64:W1.frozen? ⟨w.heap.size,64,none⟩=false:=by rw[<-hW1];simp
 have HT1:=ad ht1
 obtain⟨ti,tz,hti,htz,hsi,hby,hzs⟩:=lv
 have hs1:W1.heap.size=w.heap.size+1:=by rw[<-hW1];simp
 have HR:=ad hrow
 have hx:=jQ (i%16) (by omega)
 have hx2:=jQ (i/16) (by omega)
 have hi':16<=(i:Int):=by omega
 have hi2:(i:Int)/16<16:=by omega
 have ham:=xQ i hi
 clear ht ht1 hrow
 go_enter func303,ntmps303
 go_wp2_with fail
 refine(uR _).mono ?_
 rintro e w1 ⟨rfl,rfl⟩
 go_wp2_with fail
 refine(zp _ HT1.out).mono ?_
 rintro e w1 ⟨rfl,rfl⟩
 go_wp2_with fail
 have hz63:W1.cell? (ak w.heap.size 63)=some (.int .u8 0):=by rw[<-hW1];exact ey w _ _ 63 _ (by kernel_rfl)
 have hf63:W1.frozen? ⟨w.heap.size,63,none⟩=false:=by rw[<-hW1];simp
 refine wp_loop_rounds 2 ?_
 rw[rounds_succ]
 go_wp2_with fail
 rw[rounds_succ]
 have hnews:∀j u,([bF (i/16),bF (i%16)].flatMap bK)[j]?=some u->((W1.setCell (ak w.heap.size 64) (.int .u8 ((bF (i%16)).toNat:Int))).setCell (ak w.heap.size 63) (.int .u8 ((bF (i/16)).toNat:Int))).cell? (ak w.heap.size (63+j))=some u:=by
  intro j u hu
  have hz63':(W1.setCell (ak w.heap.size 64) (.int .u8 ((bF (i%16)).toNat:Int))).cell? (ak w.heap.size 63)=some (.int .u8 0):=by
   rw[World.cell?_setCell_other _ _ _ _ (by simp)]
   exact hz63
  have hj:j=0\/j=1:=by
   have:=(aq hu).1
   simp[bK]at this
   omega
  rcases hj with rfl|rfl
  ·rw[World.cell?_setCell_same _ _ _ hz63']
   simpa[bK]using hu
  ·rw[World.cell?_setCell_other _ _ _ _ (by simp),World.cell?_setCell_same _ _ _ hz64]
   simpa[bK]using hu
 have HNW:=ad hnews
 clear hnews
 go_wp2_with (at_builtin;refine bY rfl _ _ 76 rfl _ B 5 ti tz 1 1 bK underlying76 hti htz hsi hby hzs (by decide) dy dd _ l [bF (i/16),bF (i%16)] rfl (((HR.later (by rw[<-hW1];exact aB)).away _ (fun k hk=>by have:=(HR.lt k hk).2;simp only;omega)).away _ (fun k hk=>by have:=(HR.lt k hk).2;simp only;omega)) w.heap.size 63 2 rfl HNW.out (by unfold maxLen;simp;omega) (by simp;omega) (by simp;omega) ?_)
 intro v' w5 hrow5 hg5
 have hF:Fr (fun k=>v.ownBlock=some k) w w5:=by
  refine Fr.grown (w':=(W1.setCell (ak w.heap.size 64) (.int .u8 ((bF (i%16)).toNat:Int))).setCell (ak w.heap.size 63) (.int .u8 ((bF (i/16)).toNat:Int))) ?_ hg5 (fun g hg=>.inl hg)
  rw[<-hW1]
  exact(((Fr.refl _ _).alloc _).setCell (.inr aC) _).setCell (.inr aC) _
 have HF:=ad hF
 have HR5:=ad hrow5
 clear hF hrow5 hg5 HNW hz64 hf64 hW1
 go_wp2_with fail
 go_ret2
 exact⟨_,rfl,HR5.out,HF.out⟩
theorem rF (w:World) (B:Nat) (v:Value) (l:List UInt8) (c:UInt8) (hl:(l.length:Int)<=1000000) (hrow:aS w B 5 1 bK v l) (hB:B<=w.heap.size) (ht:w.cell? (ak 6 15)=some (.int .u8 4)):
 Calls prog 303 #[v,.int .u64 (c.toNat:Int),ae 16,.bool false,.bool true] w fun e w'=>∃v',e=.returned (.tuple #[v',ai])/\aS w' B 5 1 bK v' (l++fQ c)/\Fr (fun k=>v.ownBlock=some k) w w':=by
 have hc:=c.toNat_lt
 by_cases h:c.toNat<16
 ·rw[show fQ c=[bF c.toNat]by unfold fQ;rw[if_pos h]]
  exact tQ w B v l c.toNat h hl hrow hB ht
 ·rw[show fQ c=[bF (c.toNat/16),bF (c.toNat%16)]by unfold fQ;rw[if_neg h]]
  exact us w B v l c.toNat (by omega) (by omega) hl hrow hB ht
theorem CJ (w:World) (B:Nat) (v:Value) (l:List UInt8) (c:UInt8) (hl:(l.length:Int)<=1000000) (hrow:aS w B 5 1 bK v l) (hB:B<=w.heap.size) (ht:w.cell? (ak 6 15)=some (.int .u8 4)):
 Calls prog 307 #[v,.int .u64 (c.toNat:Int),ae 16] w fun e w'=>∃v',e=.returned v'/\aS w' B 5 1 bK v' (l++fQ c)/\Fr (fun k=>v.ownBlock=some k) w w':=by
 have HF:=ad (rF w B v l c hl hrow hB ht)
 clear hrow ht
 go_enter func307,ntmps307
 go_wp2_with fail
 refine HF.mono ?_
 rintro e w1 ⟨v',rfl,hr,hf⟩
 have HR:=ad hr
 have HF1:=ad hf
 clear hr hf HF
 go_wp2_with fail
 go_ret
 exact⟨_,rfl,HR.out,HF1.out⟩
theorem zN (w:World) (B:Nat) (v:Value) (l:List UInt8) (c:UInt8) (hl:(l.length:Int)<=1000000) (hrow:aS w B 5 1 bK v l) (hB:B<=w.heap.size) (ht:w.cell? (ak 6 15)=some (.int .u8 4)):
 Calls prog 232 #[v,.int .u64 (c.toNat:Int),ae 16] w fun e w'=>∃v',e=.returned v'/\aS w' B 5 1 bK v' (l++fQ c)/\Fr (fun k=>v.ownBlock=some k) w w':=by
 have HF:=ad (CJ w B v l c hl hrow hB ht)
 clear hrow ht
 go_enter func232,ntmps232
 go_wp2_with fail
 refine HF.mono ?_
 rintro e w1 ⟨v',rfl,hr,hf⟩
 have HR:=ad hr
 have HF1:=ad hf
 clear hr hf HF
 go_wp2_with fail
 go_ret
 exact⟨_,rfl,HR.out,HF1.out⟩
structure gp (w1:World) (v:Value) (acc:List UInt8) (u:World):Prop where
 row:aS u w1.heap.size 5 1 bK v acc
 below:aE w1 u
theorem gp.app {w1 u u':World} {v v':Value} {acc ys:List UInt8} {o:Obj} (h:gp w1 v acc u) (hr:aS u' w1.heap.size 5 1 bK v' (acc++ys)) (hg:(u.alloc o).grownBy u' v.ownBlock):gp w1 v' (acc++ys) u':=by
 refine⟨hr,?_⟩
 have hF:Fr (fun k=>w1.heap.size<=k) w1 u':=((Fr.of_below _ h.below).alloc o).grown hg fun g e=>.inl (h.row.lt g e).1
 exact hF.below aC fun k hk=>by omega
theorem gp.fr {w1 u u':World} {v v':Value} {acc ys:List UInt8} (h:gp w1 v acc u) (hr:aS u' w1.heap.size 5 1 bK v' (acc++ys)) (hf:Fr (fun k=>v.ownBlock=some k) u u'):gp w1 v' (acc++ys) u':=by
 refine⟨hr,?_⟩
 have hF:Fr (fun k=>w1.heap.size<=k) w1 u':=(Fr.of_below _ h.below).trans (hf.weak fun k e=>(h.row.lt k e).1)
 exact hF.below aC fun k hk=>by omega
theorem gp.size {w1 u:World} {v:Value} {acc:List UInt8} (h:gp w1 v acc u):w1.heap.size<=u.heap.size:=h.below.size
theorem gp.tab {w1 u:World} {v x:Value} {acc:List UInt8} (h:gp w1 v acc u) (ht:w1.cell? (ak 6 15)=some x):u.cell? (ak 6 15)=some x:=jc ht h.below
theorem kn (w:World) (e:TypeId) (a:UInt8) (x:Int) (hx:x=(a.toNat:Int)):∀j u,([a].flatMap bK)[j]?=some u->(w.alloc (.cells #[.int .u8 x] e)).cell? (ak w.heap.size (0+j))=some u:=by
 intro j u hu
 subst hx
 rw[Nat.zero_add]
 refine ey _ _ _ j u ?_
 rw[<-Array.getElem?_toList]
 exact hu
theorem gG (w:World) (e:TypeId) (a b:UInt8) (x y:Int) (hx:x=(a.toNat:Int)) (hy:y=(b.toNat:Int)):∀j u,([a,b].flatMap bK)[j]?=some u->(w.alloc (.cells #[.int .u8 x,.int .u8 y] e)).cell? (ak w.heap.size (0+j))=some u:=by
 intro j u hu
 subst hx hy
 rw[Nat.zero_add]
 refine ey _ _ _ j u ?_
 rw[<-Array.getElem?_toList]
 exact hu
theorem Ba (c:UInt8):(ed c).length<=5:=by
 unfold ed fQ
 (repeat' split)<;>simp
theorem rQ:∀l:List UInt8,(l.flatMap ed).length<=5*l.length
 |[]=>by simp
 |c::r=>by
  rw[List.flatMap_cons,List.length_append,List.length_cons]
  have:=rQ r
  have:=Ba c
  omega
theorem uk {l:List UInt8} {k:Nat} {c:UInt8} (h:l[k]?=some c):l.take (k+1)=l.take k++[c]:=by
 obtain⟨hk,rfl⟩:=aq h
 exact List.take_succ_eq_append_getElem hk
theorem vJ {l:List UInt8} {k:Nat} {c:UInt8} (h:l[k]?=some c):(l.take (k+1)).flatMap ed=(l.take k).flatMap ed++ed c:=by
 rw[uk h,List.flatMap_append]
 simp
theorem yd {l:List UInt8} (h:kM l=false):sn l=39::(l.flatMap ed)++[39]:=by
 unfold sn
 rw[if_neg (by simp[h])]
 rfl
theorem Co (w:World) (l:List UInt8) (hl:(l.length:Int)<=100000) (ht:w.cell? (ak 6 15)=some (.int .u8 4)):
 Calls prog 137 #[af l] w fun e w'=>e=.returned (af (sn l))/\aE w w':=by
 have HT:=ad ht
 clear ht
 obtain⟨ti,tz,hti,htz,hsi,hby,hzs⟩:=lv
 go_enter func137,ntmps137
 go_wp2_with fail
 refine(wV w l (by omega)).mono ?_
 rintro e w1 ⟨rfl,hb1⟩
 have HB1:=ad hb1
 have HT1:=ad (jc HT.out hb1)
 clear hb1 HT
 by_cases hp:kM l=true
 ·rw[hp]
  have HP:=ad (show sn l=l by unfold sn;rw[if_pos hp])
  clear hp
  go_wp2_with fail
  go_ret
  exact⟨by rw[HP.out];rfl,HB1.out⟩
 rw[Bool.not_eq_true]at hp
 rw[hp]
 have HP:=ad (yd hp)
 clear hp
 obtain⟨w2,hmk,hr2,hg2⟩:=aS.made (P:=prog) (B:=w1.heap.size) (enc:=bK) (w:=w1) underlying76 hti htz hsi .i64 .i64 (l.length+2) (by rw[hby];omega) (by unfold maxLen;omega) aC
 have HS2:Hid (gp w1 (al w1.heap.size 0 (l.length+2)) [] w2):=ad ⟨hr2,(Fr.grown (Fr.refl (fun k=>w1.heap.size<=k) w1) hg2 (fun g e=>by cases e)).below aC fun k hk=>by omega⟩
 have HL2:=ad (gp.size HS2.out)
 clear hr2 hg2
 have hmk':(Instr.makeSlice 76 (ae 0) (ae ((l.length:Int)+2))).run prog w1=.ok (al w1.heap.size 0 (l.length+2)) w2:=hmk
 clear hmk
 go_wp2_with (at_builtin;refine bY rfl _ _ 76 rfl _ w1.heap.size 5 ti tz 1 1 bK underlying76 hti htz hsi hby hzs (by decide) dy dd _ [] [39] rfl (HS2.row.alloc _) _ 0 1 rfl (kn _ _ 39 _ rfl) (by unfold maxLen;simp) (by simp) (Nat.le_trans HL2.out (by simp)) ?_)
 intro v3 w3 hr3 hg3
 have HS3:=ad (HS2.app hr3 hg3)
 clear hr3 hg3 HS2 HL2 hmk'
 go_wp2_with fail
 go_loopw [3,4] (fun v i wr=>∃k:Nat,k<=l.length/\i=ae k/\Hid (gp w1 v (39::(l.take k).flatMap ed) wr)) (fun _ i _=>l.length-(intOf i).toNat)
 case atStart=>exact⟨0,Nat.zero_le _,rfl,ad (by simpa using HS3.out)⟩
 case round=>
  obtain⟨k,hk,rfl,HS⟩:=hrel
  clear HS3
  have hel:=rQ (l.take k)
  rw[List.length_take]at hel
  by_cases hlt:k<l.length
  ·obtain⟨c,hd,hx,hg⟩:=kJ l k hlt
   have hlt':(k:Int)<(l.length:Int):=by omega
   have he:39::(l.take (k+1)).flatMap ed=(39::(l.take k).flatMap ed)++ed c:=by rw[vJ hg];rfl
   have HE0:=ad he
   clear hd hg he
   by_cases e39:c=39
   ·subst e39
    have HE:=ad (HE0.trans (show _=(39::(l.take k).flatMap ed)++[92,39]from rfl))
    clear HE0
    go_wp2_with (at_builtin;refine bY rfl _ _ 76 rfl _ w1.heap.size 5 ti tz 1 1 bK underlying76 hti htz hsi hby hzs (by decide) dy dd _ (39::(l.take k).flatMap ed) [92,39] rfl (HS.row.alloc _) _ 0 2 rfl (gG _ _ 92 39 _ _ rfl rfl) (by unfold maxLen;simp only[List.length_cons,List.length_nil];omega) (by simp only[List.length_cons,List.length_nil];omega) (Nat.le_trans HS.size (by simp)) ?_)
    intro v4 w4 hr4 hg4
    have HS4:=ad (HS.app hr4 hg4)
    clear hr4 hg4 HS
    go_wp2_with fail
    go_roundw
    case rel=>exact⟨k+1,hlt,by go_num,ad (by rw[HE.out];exact HS4.out)⟩
    case measure=>simp[intOf];omega
   by_cases e92:c=92
   ·subst e92
    have HE:=ad (HE0.trans (show _=(39::(l.take k).flatMap ed)++[92,92]from rfl))
    clear HE0
    go_wp2_with (at_builtin;refine bY rfl _ _ 76 rfl _ w1.heap.size 5 ti tz 1 1 bK underlying76 hti htz hsi hby hzs (by decide) dy dd _ (39::(l.take k).flatMap ed) [92,92] rfl (HS.row.alloc _) _ 0 2 rfl (gG _ _ 92 92 _ _ rfl rfl) (by unfold maxLen;simp only[List.length_cons,List.length_nil];omega) (by simp only[List.length_cons,List.length_nil];omega) (Nat.le_trans HS.size (by simp)) ?_)
    intro v4 w4 hr4 hg4
    have HS4:=ad (HS.app hr4 hg4)
    clear hr4 hg4 HS
    go_wp2_with fail
    go_roundw
    case rel=>exact⟨k+1,hlt,by go_num,ad (by rw[HE.out];exact HS4.out)⟩
    case measure=>simp[intOf];omega
   by_cases e10:c=10
   ·subst e10
    have HE:=ad (HE0.trans (show _=(39::(l.take k).flatMap ed)++[92,110]from rfl))
    clear HE0
    go_wp2_with (at_builtin;refine bY rfl _ _ 76 rfl _ w1.heap.size 5 ti tz 1 1 bK underlying76 hti htz hsi hby hzs (by decide) dy dd _ (39::(l.take k).flatMap ed) [92,110] rfl (HS.row.alloc _) _ 0 2 rfl (gG _ _ 92 110 _ _ rfl rfl) (by unfold maxLen;simp only[List.length_cons,List.length_nil];omega) (by simp only[List.length_cons,List.length_nil];omega) (Nat.le_trans HS.size (by simp)) ?_)
    intro v4 w4 hr4 hg4
    have HS4:=ad (HS.app hr4 hg4)
    clear hr4 hg4 HS
    go_wp2_with fail
    go_roundw
    case rel=>exact⟨k+1,hlt,by go_num,ad (by rw[HE.out];exact HS4.out)⟩
    case measure=>simp[intOf];omega
   by_cases e9:c=9
   ·subst e9
    have HE:=ad (HE0.trans (show _=(39::(l.take k).flatMap ed)++[92,116]from rfl))
    clear HE0
    go_wp2_with (at_builtin;refine bY rfl _ _ 76 rfl _ w1.heap.size 5 ti tz 1 1 bK underlying76 hti htz hsi hby hzs (by decide) dy dd _ (39::(l.take k).flatMap ed) [92,116] rfl (HS.row.alloc _) _ 0 2 rfl (gG _ _ 92 116 _ _ rfl rfl) (by unfold maxLen;simp only[List.length_cons,List.length_nil];omega) (by simp only[List.length_cons,List.length_nil];omega) (Nat.le_trans HS.size (by simp)) ?_)
    intro v4 w4 hr4 hg4
    have HS4:=ad (HS.app hr4 hg4)
    clear hr4 hg4 HS
    go_wp2_with fail
    go_roundw
    case rel=>exact⟨k+1,hlt,by go_num,ad (by rw[HE.out];exact HS4.out)⟩
    case measure=>simp[intOf];omega
   have t39:((c.toNat:Int)==39)=false:=jg e39
   have t92:((c.toNat:Int)==92)=false:=jg e92
   have t10:((c.toNat:Int)==10)=false:=jg e10
   have t9:((c.toNat:Int)==9)=false:=jg e9
   by_cases hs:c<32\/c=127
   ·have HE:=ad (HE0.trans (show _=(39::(l.take k).flatMap ed)++([92,120]++fQ c++[92])by unfold ed;rw[if_neg (by simp[e39,e92]),if_neg e10,if_neg e9,if_pos hs]))
    clear HE0 e39 e92 e10 e9
    have hxl:(fQ c).length<=2:=by unfold fQ;split<;>simp
    have HS':c<32\/c=127:=hs
    rcases HS' with h32|h127
    case' inl=>
     have h2:(c.toNat:Int)<32:=by
      rw[UInt8.lt_iff_toNat_lt]at h32
      have h:(32:UInt8).toNat=32:=rfl
      omega
     clear h32
    case' inr=>
     have h3:32<=(c.toNat:Int):=by rw[h127];decide
     have h2:((c.toNat:Int)==127)=true:=by rw[h127];rfl
     clear h127
    all_goals
     have hcb:(c.toNat:Int)<256:=by have:=c.toNat_lt;omega
     clear hs
     go_wp2_with (at_builtin;refine bY rfl _ _ 76 rfl _ w1.heap.size 5 ti tz 1 1 bK underlying76 hti htz hsi hby hzs (by decide) dy dd _ (39::(l.take k).flatMap ed) [92,120] rfl (HS.row.alloc _) _ 0 2 rfl (gG _ _ 92 120 _ _ rfl rfl) (by unfold maxLen;simp only[List.length_cons,List.length_nil];omega) (by simp only[List.length_cons,List.length_nil];omega) (Nat.le_trans HS.size (by simp)) ?_)
     intro v4 w4 hr4 hg4
     have HS4:=ad (HS.app hr4 hg4)
     clear hr4 hg4 HS
     go_wp2_with fail
     refine(zN w4 w1.heap.size v4 _ c (by simp only[List.length_append,List.length_cons,List.length_nil];omega) HS4.row HS4.size (HS4.tab HT1.out)).mono ?_
     rintro e w5 ⟨v5,rfl,hr5,hf5⟩
     have HS5:=ad (HS4.fr hr5 hf5)
     clear hr5 hf5 HS4
     go_wp2_with (at_builtin;refine bY rfl _ _ 76 rfl _ w1.heap.size 5 ti tz 1 1 bK underlying76 hti htz hsi hby hzs (by decide) dy dd _ ((39::(l.take k).flatMap ed)++[92,120]++fQ c) [92] rfl (HS5.row.alloc _) _ 0 1 rfl (kn _ _ 92 _ rfl) (by unfold maxLen;simp only[List.length_append,List.length_cons,List.length_nil];omega) (by simp only[List.length_append,List.length_cons,List.length_nil];omega) (Nat.le_trans HS5.size (by simp)) ?_)
     intro v6 w6 hr6 hg6
     have HS6:=ad (HS5.app (ys:=[92]) (by simpa using hr6) hg6)
     clear hr6 hg6 HS5
     go_wp2_with fail
     go_roundw
     case rel=>exact⟨k+1,hlt,by go_num,ad (by rw[HE.out];simpa using HS6.out)⟩
     case measure=>simp[intOf];omega
   ·have HE:=ad (HE0.trans (show _=(39::(l.take k).flatMap ed)++[c]by unfold ed;rw[if_neg (by simp[e39,e92]),if_neg e10,if_neg e9,if_neg hs]))
    simp only[not_or]at hs
    have t127:((c.toNat:Int)==127)=false:=jg hs.2
    have h32:32<=(c.toNat:Int):=by
     have:=hs.1
     rw[UInt8.lt_iff_toNat_lt]at this
     have h:(32:UInt8).toNat=32:=rfl
     omega
    clear HE0 e39 e92 e10 e9 hs
    go_wp2_with (at_builtin;refine bY rfl _ _ 76 rfl _ w1.heap.size 5 ti tz 1 1 bK underlying76 hti htz hsi hby hzs (by decide) dy dd _ (39::(l.take k).flatMap ed) [c] rfl (HS.row.alloc _) _ 0 1 rfl (kn _ _ c _ rfl) (by unfold maxLen;simp only[List.length_cons,List.length_nil];omega) (by simp only[List.length_cons,List.length_nil];omega) (Nat.le_trans HS.size (by simp)) ?_)
    intro v4 w4 hr4 hg4
    have HS4:=ad (HS.app hr4 hg4)
    clear hr4 hg4 HS
    go_wp2_with fail
    go_roundw
    case rel=>exact⟨k+1,hlt,by go_num,ad (by rw[HE.out];exact HS4.out)⟩
    case measure=>simp[intOf];omega
  ·have hkn:k=l.length:=by omega
   subst hkn
   rw[List.take_length]at HS hel
   have hi:l.length<=100000:=by omega
   go_wp2_with (at_builtin;refine bY rfl _ _ 76 rfl _ w1.heap.size 5 ti tz 1 1 bK underlying76 hti htz hsi hby hzs (by decide) dy dd _ (39::l.flatMap ed) [39] rfl (HS.row.alloc _) _ 0 1 rfl (kn _ _ 39 _ rfl) (by unfold maxLen;simp only[List.length_cons,List.length_nil];omega) (by simp only[List.length_cons,List.length_nil];omega) (Nat.le_trans HS.size (by simp)) ?_)
   intro v4 w4 hr4 hg4
   have HS4:=ad (HS.app hr4 hg4)
   clear hr4 hg4 HS
   have hst:=HS4.row.string (P:=prog) (dst:=9) underlying76 underlying5 underlying9
   go_wp2_with fail
   go_ret
   exact⟨by rw[HP.out];rfl,HB1.trans (HS4.below.mono HB1.size)⟩
end
end Go.Proofs.YtigeofkllldilaaGreatDoor
