import Derived.Test.YtigeofkllldilaaGreatDoorJM00
import Derived.BigQuiet
set_option maxHeartbeats 32000000
set_option maxRecDepth 100000
set_option linter.unusedSectionVars false
open Go.Proofs.Tryz
namespace Go.Proofs.YtigeofkllldilaaGreatDoor
section
open Go.RowKit
theorem jw {k:IntKind} {a b:Int} (h:a=b):Ending.returned (.int k a)=.returned (.int k b):=by rw[h]
theorem xD (w:World) (c:Int) (h:c=33\/c=34\/c=35\/c=36\/c=37\/c=38\/c=39\/c=40\/c=41\/c=42\/c=43):
 Calls prog 112 #[.int .u8 c] w fun e w'=>e=.returned (ae (cS c))/\w=w':=by
 rcases h with rfl|rfl|rfl|rfl|rfl|rfl|rfl|rfl|rfl|rfl|rfl
 all_goals
  go_enter func112,ntmps112
  go_wp2_with fail
  go_ret
  exact⟨jw (by decide),rfl⟩
theorem xU (w:World) (c:Int) (h:c=44\/c=45\/c=46\/c=47\/c=58\/c=59\/c=60\/c=61\/c=62\/c=63\/c=64):
 Calls prog 112 #[.int .u8 c] w fun e w'=>e=.returned (ae (cS c))/\w=w':=by
 rcases h with rfl|rfl|rfl|rfl|rfl|rfl|rfl|rfl|rfl|rfl|rfl
 all_goals
  go_enter func112,ntmps112
  go_wp2_with fail
  go_ret
  exact⟨jw (by decide),rfl⟩
theorem ye (w:World) (c:Int) (h:c=91\/c=92\/c=93\/c=94\/c=95\/c=96\/c=123\/c=124\/c=125\/c=126\/c=32):
 Calls prog 112 #[.int .u8 c] w fun e w'=>e=.returned (ae (cS c))/\w=w':=by
 rcases h with rfl|rfl|rfl|rfl|rfl|rfl|rfl|rfl|rfl|rfl|rfl
 all_goals
  go_enter func112,ntmps112
  go_wp2_with fail
  go_ret
  exact⟨jw (by decide),rfl⟩
theorem BH (w:World) (c:Int) (h0:0<=c) (h1:c<=8):
 Calls prog 112 #[.int .u8 c] w fun e w'=>e=.returned (ae (cS c))/\w=w':=by
 go_enter func112,ntmps112
 go_wp2_with fail
 go_ret
 exact⟨jw (by unfold cS;(repeat' split)<;>omega),rfl⟩
theorem zH (w:World) (c:Int) (h0:9<=c) (h1:c<=13):
 Calls prog 112 #[.int .u8 c] w fun e w'=>e=.returned (ae (cS c))/\w=w':=by
 go_enter func112,ntmps112
 go_wp2_with fail
 go_ret
 exact⟨jw (by unfold cS;(repeat' split)<;>omega),rfl⟩
theorem BL (w:World) (c:Int) (h0:14<=c) (h1:c<=31):
 Calls prog 112 #[.int .u8 c] w fun e w'=>e=.returned (ae (cS c))/\w=w':=by
 go_enter func112,ntmps112
 go_wp2_with fail
 go_ret
 exact⟨jw (by unfold cS;(repeat' split)<;>omega),rfl⟩
theorem zG (w:World) (c:Int) (h0:48<=c) (h1:c<=57):
 Calls prog 112 #[.int .u8 c] w fun e w'=>e=.returned (ae (cS c))/\w=w':=by
 go_enter func112,ntmps112
 go_wp2_with fail
 go_ret
 exact⟨jw (by unfold cS;(repeat' split)<;>omega),rfl⟩
theorem Am (w:World) (c:Int) (h0:65<=c) (h1:c<=90):
 Calls prog 112 #[.int .u8 c] w fun e w'=>e=.returned (ae (cS c))/\w=w':=by
 go_enter func112,ntmps112
 go_wp2_with fail
 go_ret
 exact⟨jw (by unfold cS;(repeat' split)<;>omega),rfl⟩
theorem yr (w:World) (c:Int) (h0:97<=c) (h1:c<=122):
 Calls prog 112 #[.int .u8 c] w fun e w'=>e=.returned (ae (cS c))/\w=w':=by
 go_enter func112,ntmps112
 go_wp2_with fail
 go_ret
 exact⟨jw (by unfold cS;(repeat' split)<;>omega),rfl⟩
theorem AH (w:World) (c:Int) (h0:127<=c) (h1:c<=255):
 Calls prog 112 #[.int .u8 c] w fun e w'=>e=.returned (ae (cS c))/\w=w':=by
 go_enter func112,ntmps112
 go_wp2_with fail
 go_ret
 exact⟨jw (by unfold cS;(repeat' split)<;>omega),rfl⟩
theorem zS (w:World) (c:Int) (h0:0<=c) (h1:c<=255):
 Calls prog 112 #[.int .u8 c] w fun e w'=>e=.returned (ae (cS c))/\w=w':=by
 by_cases i0:0<=c/\c<=8
 ·exact BH w c i0.1 i0.2
 by_cases i1:9<=c/\c<=13
 ·exact zH w c i1.1 i1.2
 by_cases i2:14<=c/\c<=31
 ·exact BL w c i2.1 i2.2
 by_cases i3:48<=c/\c<=57
 ·exact zG w c i3.1 i3.2
 by_cases i4:65<=c/\c<=90
 ·exact Am w c i4.1 i4.2
 by_cases i5:97<=c/\c<=122
 ·exact yr w c i5.1 i5.2
 by_cases i6:127<=c/\c<=255
 ·exact AH w c i6.1 i6.2
 by_cases g0:c=33\/c=34\/c=35\/c=36\/c=37\/c=38\/c=39\/c=40\/c=41\/c=42\/c=43
 ·exact xD w c g0
 by_cases g1:c=44\/c=45\/c=46\/c=47\/c=58\/c=59\/c=60\/c=61\/c=62\/c=63\/c=64
 ·exact xU w c g1
 exact ye w c (by omega)
theorem xI (w:World) (c:UInt8):Calls prog 112 #[.int .u8 (c.toNat:Int)] w fun e w'=>e=.returned (ae (fT c))/\w=w':=
 zS w c.toNat (by omega) (by have:=c.toNat_lt;omega)
theorem xX (c:Int):0<=cS c/\cS c<=8:=by unfold cS;(repeat' split)<;>omega
theorem AB (c:UInt8):0<=fT c/\fT c<=8:=xX _
end
end Go.Proofs.YtigeofkllldilaaGreatDoor
