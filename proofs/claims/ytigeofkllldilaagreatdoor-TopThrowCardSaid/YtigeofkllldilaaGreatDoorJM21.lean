import Derived.Test.YtigeofkllldilaaGreatDoorJM14
import Derived.Test.YtigeofkllldilaaGreatDoorJM08
set_option maxHeartbeats 32000000
set_option maxRecDepth 100000
set_option linter.unusedSectionVars false
open Go.Proofs.Tryz
namespace Go.Proofs.YtigeofkllldilaaGreatDoor
section
open Go.RowKit
def jF (t:fl):Value:=.agg #[ae t.kind,ae 0,ae t.n,af t.s,.bool false,.bool false]
def kT:Option (Option fl)->Value
 |none=>.tuple #[jF ⟨0,0,[],0⟩,ae 0,ae 0]
 |some none=>.tuple #[jF ⟨0,0,[],0⟩,ae 0,ae 5]
 |some (some t)=>.tuple #[jF t,ae (t.len:Int),ae 0]
inductive nN:List UInt8->fl->Prop
 |a0:nN [112,40,88,41,32,46] ⟨1,0,[112],1⟩
 |a1:nN [40,88,41,32,46] ⟨6,0,[40],1⟩
 |a2:nN [88,41,32,46] ⟨4,0,[88],1⟩
 |a3:nN [41,32,46] ⟨6,0,[41],1⟩
 |a4:nN [46] ⟨7,0,[],1⟩
 |b0:nN [112,40,49,41,46,32,112,40,50,41,46] ⟨1,0,[112],1⟩
 |b1:nN [40,49,41,46,32,112,40,50,41,46] ⟨6,0,[40],1⟩
 |b2:nN [49,41,46,32,112,40,50,41,46] ⟨3,1,[],1⟩
 |b3:nN [41,46,32,112,40,50,41,46] ⟨6,0,[41],1⟩
 |b4:nN [46,32,112,40,50,41,46] ⟨7,0,[],1⟩
 |b6:nN [112,40,50,41,46] ⟨1,0,[112],1⟩
 |b7:nN [40,50,41,46] ⟨6,0,[40],1⟩
 |b8:nN [50,41,46] ⟨3,2,[],1⟩
 |b9:nN [41,46] ⟨6,0,[41],1⟩
theorem cr (w:World) (b:UInt8) (k:Int) (h:(b=112/\k=2)\/(b=88/\k=3)\/(b=49/\k=4)\/(b=50/\k=4)\/(b=40/\k=7)\/(b=41/\k=7)\/(b=46/\k=5)\/(b=32/\k=1)):Calls prog 112 #[.int .u8 b.toNat] w fun e w'=>e=.returned (ae k)/\w'=w:=by
 rcases h with⟨rfl,rfl⟩|⟨rfl,rfl⟩|⟨rfl,rfl⟩|⟨rfl,rfl⟩|⟨rfl,rfl⟩|⟨rfl,rfl⟩|⟨rfl,rfl⟩|⟨rfl,rfl⟩
 all_goals
  show Calls _ _ #[.int .u8 _] _ _
  go_enter func112,ntmps112
  go_wp2_with fail
  go_ret
  exact⟨rfl,rfl⟩
theorem pD (w:World) (b:UInt8) (k:Int) (h:(b=49/\k=1)\/(b=50/\k=2)\/(b=41/\k=36)):Calls prog 291 #[.int .u8 b.toNat] w fun e w'=>e=.returned (ae k)/\w'=w:=by
 rcases h with⟨rfl,rfl⟩|⟨rfl,rfl⟩|⟨rfl,rfl⟩
 all_goals
  show Calls _ _ #[.int .u8 _] _ _
  go_enter func291,ntmps291
  go_wp2_with fail
  go_ret
  exact⟨rfl,rfl⟩
theorem j6 (w:World) (s:ByteArray) (v e:Int) (h:(s=⟨#[49]⟩/\v=1/\e=0)\/(s=⟨#[50]⟩/\v=2/\e=0)\/(s=⟨#[41]⟩/\v=0/\e=6)):Calls prog 214 #[.string s,ae 10] w fun x w'=>x=.returned (.tuple #[ae v,ae e])/\w'=w:=by
 rcases h with⟨rfl,hv,he⟩|⟨rfl,hv,he⟩|⟨rfl,hv,he⟩
 all_goals
  have HV:=ad (aD hv he)
  clear hv he
  go_enter func214,ntmps214
  go_wp2_with fail
  go_loop [6,7,8] (fun x o i=>o=.bool false/\((i=ae 0/\x=.int .u64 0)\/(i=ae 1/\x=.int .u64 v/\Hid (e=0)))) (fun _ _ i=>1-(intOf i).toNat)
  case atStart=>exact⟨rfl,.inl ⟨rfl,rfl⟩⟩
  case round=>
   obtain⟨rfl,⟨rfl,rfl⟩|⟨rfl,rfl,HE⟩⟩:=hrel
   ·go_wp2_with fail
    first
     |refine(pD _ _ 1 (by decide)).mono ?_
     |refine(pD _ _ 2 (by decide)).mono ?_
     |refine(pD _ _ 36 (by decide)).mono ?_
    rintro y w1 ⟨rfl,rfl⟩
    go_wp2_with fail
    first
     |exact⟨⟨rfl,.inr ⟨rfl,by rw[HV.1],ad HV.2⟩⟩,by decide⟩
     |(go_ret2
       exact⟨by rw[HV.1,HV.2];rfl,rfl⟩)
   ·have hv:=HV.out
    rw[HE.out]at hv
    first
     |exact absurd hv.2 (by decide)
     |(obtain⟨rfl,-⟩:=hv
       go_wp2_with fail
       go_ret2
       exact⟨by rw[HE.out];rfl,rfl⟩)
theorem zh (w:World) (s:List UInt8) (t:fl) (h:nN s t) (ht:t.kind=1\/t.kind=4):Calls prog 113 #[af s] w fun e w'=>e=.returned (ae 1)/\w'=w:=by
 cases h<;>first|(exact absurd ht (by decide))|skip
 all_goals
  clear ht
  go_enter func113,ntmps113
  go_wp2_with fail
  go_loop [3] (fun i=>i=ae 0\/i=ae 1) (fun i=>1-(intOf i).toNat)
  case atStart=>exact .inl rfl
  case round=>
   rcases hrel with rfl|rfl
   ·go_wp2_with fail
    first
     |refine(cr _ _ 2 (by decide)).mono ?_
     |refine(cr _ _ 3 (by decide)).mono ?_
    rintro y w1 ⟨rfl,rfl⟩
    go_wp2_with fail
    exact⟨.inr rfl,by decide⟩
   ·go_wp2_with fail
    refine(cr _ _ 7 (by decide)).mono ?_
    rintro y w1 ⟨rfl,rfl⟩
    go_wp2_with fail
    go_ret
    exact⟨rfl,rfl⟩
end
end Go.Proofs.YtigeofkllldilaaGreatDoor
