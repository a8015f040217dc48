import Derived.Test.YtigeofkllldilaaGreatDoorJM21
set_option maxHeartbeats 32000000
set_option maxRecDepth 100000
set_option linter.unusedSectionVars false
open Go.Proofs.Tryz
namespace Go.Proofs.YtigeofkllldilaaGreatDoor
section
open Go.RowKit
def ix (k:Int) (t:fl):Value:=kT (if t.kind=k then some (some t)else none)
section
variable(w:World) (x:Value) {s:List UInt8} {t:fl} (h:nN s t)
include h
theorem Ee:Calls prog 46 #[x,af s] w fun e w'=>e=.returned (ix 7 t)/\aE w w':=by
 cases h
 all_goals
  go_enter func46,ntmps46
  go_wp2_with fail
  first
   |(refine bodyPost_ret ?_ rfl ⟨rfl,aB⟩
     simp[results,results46,go_sem,ix,kT,jF]
     done)
   |(refine(cr _ _ 1 (by decide)).mono ?_
     rintro y w1 ⟨rfl,rfl⟩
     go_wp2_with fail
     refine bodyPost_ret ?_ rfl ⟨rfl,aB⟩
     simp[results,results46,go_sem,ix,kT,jF]
     done)
theorem Dy (ht:t.kind≠7):Calls prog 47 #[x,af s] w fun e w'=>e=.returned (ix 1 t)/\aE w w':=by
 cases h<;>first|(exact absurd rfl ht)|skip
 all_goals
  clear ht
  go_enter func47,ntmps47
  go_wp2_with fail
  first
   |refine(cr _ _ 2 (by decide)).mono ?_
   |refine(cr _ _ 3 (by decide)).mono ?_
   |refine(cr _ _ 4 (by decide)).mono ?_
   |refine(cr _ _ 7 (by decide)).mono ?_
  rintro y w1 ⟨rfl,rfl⟩
  go_wp2_with fail
  first
   |(refine bodyPost_ret ?_ rfl ⟨rfl,aB⟩;simp[results,results47,go_sem,ix,kT,jF]<;>rfl)
   |(refine(zh _ _ ⟨1,0,[112],1⟩ (by constructor) (.inl rfl)).mono ?_;rintro y w1 ⟨rfl,rfl⟩;go_wp2_with fail;(refine bodyPost_ret ?_ rfl ⟨rfl,aB⟩;simp[results,results47,go_sem,ix,kT,jF]<;>rfl))
theorem CT (ht:t.kind≠7):Calls prog 48 #[x,af s] w fun e w'=>e=.returned (ix 4 t)/\aE w w':=by
 cases h<;>first|(exact absurd rfl ht)|skip
 all_goals
  clear ht
  go_enter func48,ntmps48
  go_wp2_with fail
  first
   |refine(cr _ _ 2 (by decide)).mono ?_
   |refine(cr _ _ 3 (by decide)).mono ?_
   |refine(cr _ _ 4 (by decide)).mono ?_
   |refine(cr _ _ 7 (by decide)).mono ?_
  rintro y w1 ⟨rfl,rfl⟩
  go_wp2_with fail
  first
   |(refine bodyPost_ret ?_ rfl ⟨rfl,aB⟩;simp[results,results48,go_sem,ix,kT,jF]<;>rfl)
   |(refine(zh _ _ ⟨4,0,[88],1⟩ (by constructor) (.inr rfl)).mono ?_;rintro y w1 ⟨rfl,rfl⟩;go_wp2_with fail;(refine bodyPost_ret ?_ rfl ⟨rfl,aB⟩;simp[results,results48,go_sem,ix,kT,jF]<;>rfl))
theorem CS (ht:t.kind≠7):Calls prog 51 #[x,af s] w fun e w'=>e=.returned (ix 6 t)/\aE w w':=by
 cases h<;>first|(exact absurd rfl ht)|skip
 all_goals
  clear ht
  go_enter func51,ntmps51
  go_wp2_with fail
  first
   |refine(cr _ _ 2 (by decide)).mono ?_
   |refine(cr _ _ 3 (by decide)).mono ?_
   |refine(cr _ _ 4 (by decide)).mono ?_
   |refine(cr _ _ 7 (by decide)).mono ?_
  rintro y w1 ⟨rfl,rfl⟩
  go_wp2_with fail
  (refine bodyPost_ret ?_ rfl ⟨rfl,aB⟩;simp[results,results51,go_sem,ix,kT,jF]<;>rfl)
theorem Bj (ht:t.kind≠7):Calls prog 50 #[x,af s] w fun e w'=>e=.returned (ix 2 t)/\aE w w':=by
 cases h<;>first|(exact absurd rfl ht)|skip
 all_goals
  clear ht
  go_enter func50,ntmps50
  go_wp2_with fail
  (refine bodyPost_ret ?_ rfl ⟨rfl,aB.alloc (by simp) _⟩;simp[results,results50,go_sem,ix,kT,jF])
end
end
end Go.Proofs.YtigeofkllldilaaGreatDoor
