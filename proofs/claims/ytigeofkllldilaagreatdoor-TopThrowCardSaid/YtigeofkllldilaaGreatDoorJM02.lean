import Derived.Test.YtigeofkllldilaaGreatDoorJM01
import Derived.WalkSpells
import Derived.BigQuiet
import Derived.Handy
set_option maxHeartbeats 32000000
set_option maxRecDepth 100000
set_option linter.unusedSectionVars false
open Go.Proofs.Tryz
namespace Go.Proofs.YtigeofkllldilaaGreatDoor
section
open Go.RowKit Go.Maps
abbrev dh:=Int×List UInt8
abbrev dv:=Int×Int
def sN (k:dh):Value:=.agg #[ae k.1,af k.2]
def Dl (v:dv):Value:=.agg #[ae v.1,ae v.2]
def ir (k:dh):Prop:=(-9223372036854775808<=k.1/\k.1<=9223372036854775807)/\k.2.length<=maxLen
theorem BT (a b:dh) (h:sN a=sN b):a=b:=by
 obtain⟨a1,a2⟩:=a
 obtain⟨b1,b2⟩:=b
 simp[sN]at h
 rw[h.1,h.2]
theorem CU:laidOutB prog=true:=by kernel_rfl
theorem AS:(101:TypeId)<prog.types.size:=of_decide_eq_true (by kernel_rfl)
theorem CM:(match prog.underlying 101 with|some (.array _ _)|some (.struct _)=>true|_=>false)=true:=by kernel_rfl
theorem D3:WideMaps.KeyLaw prog 101:=deep_law_laid CU (m:=2) (by omega) AS (by kernel_rfl) CM
theorem Eo:prog.keyType 101=true:=by kernel_rfl
theorem xv:∃f g,prog.underlying 101=some (.struct #[f,g])/\f.type=3/\g.type=9/\f.offset=0/\g.offset=1/\(f.name != "_")=true/\(g.name != "_")=true:=⟨_,_,underlying101,rfl,rfl,rfl,rfl,by decide,by decide⟩
theorem sh:prog.cellsOf 101=2:=by kernel_rfl
theorem iQ:prog.cellsOf 3=1:=by kernel_rfl
theorem lw:prog.cellsOf 9=1:=by kernel_rfl
theorem AM:∃m,prog.types.size=m+1:=⟨prog.types.size-1,(Nat.succ_pred_eq_of_pos (Nat.lt_of_le_of_lt (Nat.zero_le _) AS)).symm⟩
theorem tq {a:Int} (h1:-9223372036854775808<=a) (h2:a<=9223372036854775807):(Lit.int .i64 a).wf=true:=by
 have e1:IntKind.i64.min= -9223372036854775808:=by decide
 have e2:IntKind.i64.max=9223372036854775807:=by decide
 simp only[Lit.wf,Bool.and_eq_true,e1,e2]
 exact⟨decide_eq_true h1,decide_eq_true h2⟩
theorem Ab (k:dh) (h:ir k):∃l,keyOf prog 101 (sN k)=some l:=by
 obtain⟨f,g,hu,f1,g1,f2,g2,f3,g3⟩:=xv
 obtain⟨m,hm⟩:=AM
 obtain⟨⟨h1,h2⟩,h3⟩:=h
 have hw:=tq h1 h2
 unfold keyOf
 simp only[hu]
 rw[if_pos (by simp[Eo,sN,Value.formed,hu,sh]),hm]
 refine⟨.string (keyBytes [.int .i64 k.1,.string k.2]),?_⟩
 unfold Program.keyLits
 simp only[hu,sN,Value.cells]
 rw[if_pos ⟨by rw[sh];rfl,by simp[f3,g3]⟩]
 simp only[List.mapM_cons,List.mapM_nil,f1,g1,f2,g2,iQ,lw]
 simp[Program.keyLits,underlying3,underlying9,hw,ByteArray.size,h3]
theorem EH:KE prog 101 sN ir:=⟨Keyed.of_law D3,Ab,BT⟩
def jy (t:Int):Int:=if t<=0 then 0 else if t<=3 then 2 else if t<=5 then 1 else 3
def oe (t:Int):Int:=if t=1\/t=2\/t=6 then 1 else 0
def kS (t:Int):Int:=if t=1\/t=3\/t=4 then 1 else 0
theorem Ac (t:Int):0<=oe t/\oe t<=1:=by unfold oe;split<;>omega
theorem xd (t:Int):0<=kS t/\kS t<=1:=by unfold kS;split<;>omega
theorem qN (t:Int):0<=jy t/\jy t<=3:=by unfold jy;repeat' split<;>omega
def bR (w:World):Prop:=∀t:Nat,t<=7->w.cell? (ak 0 (t*3))=some (ae (jy t))/\w.cell? (ak 0 (t*3+1))=some (ae (oe t))/\w.cell? (ak 0 (t*3+2))=some (ae (kS t))
theorem bR.lt {w:World} (h:bR w):0<w.heap.size:=World.block_lt_of_cell? w _ (h 0 (by omega)).1
theorem bR.keep {w w':World} (h:bR w) (hb:w'.heap[0]?=w.heap[0]?):bR w':=fun t ht=>by
 obtain⟨a,b,c⟩:=h t ht
 exact⟨(World.cell?_of_block (a:=⟨0,t*3,none⟩) hb).trans a,(World.cell?_of_block (a:=⟨0,t*3+1,none⟩) hb).trans b,(World.cell?_of_block (a:=⟨0,t*3+2,none⟩) hb).trans c⟩
theorem bR.below {w w':World} {B:Nat} (h:bR w) (hb:Below B w w') (hB:0<B):bR w':=h.keep (hb.block _ hB)
def pz (x:dh×dv):Prop:=x.1.1=jy x.2.2/\x.1.2.length<=1000/\1<=x.2.1/\x.2.1<=1200/\1<=x.2.2/\x.2.2<=7
theorem pz.ok {x:dh×dv} (h:pz x):ir x.1:=by
 obtain⟨h1,h2,_⟩:=h
 have:=qN x.2.2
 unfold ir maxLen
 omega
structure cm (w:World) (bt bm:Nat) (es:List (dh×dv)):Prop where
 cell:w.cell? (ak bt 0)=some (.map (some bm))
 map:aW w bm sN Dl es
 good:∀x∈es,pz x
theorem cm.ok {w:World} {bt bm:Nat} {es:List (dh×dv)} (h:cm w bt bm es):∀x∈es,ir x.1:=fun x hx=>(h.good x hx).ok
theorem cm.lt {w:World} {bt bm:Nat} {es:List (dh×dv)} (h:cm w bt bm es):bt<w.heap.size:=World.block_lt_of_cell? w _ h.cell
theorem cm.keep {w w':World} {bt bm:Nat} {es:List (dh×dv)} (h:cm w bt bm es) (h1:w'.heap[bt]?=w.heap[bt]?) (h2:w'.heap[bm]?=w.heap[bm]?):cm w' bt bm es:=
 ⟨(World.cell?_of_block (a:=⟨bt,0,none⟩) h1).trans h.cell,h.map.keep h2,h.good⟩
theorem cm.below {w w':World} {bt bm B:Nat} {es:List (dh×dv)} (h:cm w bt bm es) (hb:Below B w w') (h1:bt<B) (h2:bm<B):cm w' bt bm es:=h.keep (hb.block _ h1) (hb.block _ h2)
theorem cm.later {w w':World} {bt bm:Nat} {es:List (dh×dv)} (h:cm w bt bm es) (hb:aE w w'):cm w' bt bm es:=h.below hb h.lt h.map.lt
theorem bR.later {w w':World} (h:bR w) (hb:aE w w'):bR w':=h.below hb h.lt
def se (es:List (dh×dv)) (k:dh):dv:=(aP es k).getD (0,0)
theorem jG {u:World} {bm:Nat} {es:List (dh×dv)} (h:aW u bm sN Dl es) (hok:∀x∈es,ir x.1) (s:Int) (n:List UInt8) (hk:ir (s,n)):
 (Instr.lookup 87 (.map (some bm)) (.agg #[ae s,af n]) true).run prog u=
   .ok (.tuple #[.agg #[ae (se es (s,n)).1,ae (se es (s,n)).2],.bool (aP es (s,n)).isSome]) u:=by
 have:=h.lookup (t:=87) EH underlying87 (z:=.agg #[ae 0,ae 0]) (fun u=>by kernel_rfl) hok hk true
 rw[show sN (s,n)=.agg #[ae s,af n]from rfl]at this
 rw[this]
 cases hg:aP es (s,n)<;>simp[se,hg,Dl]
theorem je (w:World) (bt bm:Nat) (es:List (dh×dv)) (hT:cm w bt bm es) (s:Int) (n:List UInt8) (hk:ir (s,n)):
 Calls prog 279 #[ah bt,ae s,af n] w fun e w'=>e=.returned (.bool (aP es (s,n)).isSome)/\aE w w':=by
 have hl:=jG hT.map hT.ok s n hk
 have hc:=hT.cell
 clear hT hk
 go_enter func279,ntmps279
 go_wp2
 go_ret
 exact⟨rfl,aB⟩
def bM (es:List (dh×dv)) (s:Int) (n:List UInt8):Int×Int×Int:=
 match aP es (s,n)with
 |some (p,t)=>(p,p-oe t,p-kS t)
 |none=>(0,0,0)
theorem tP (w:World) (bt bm:Nat) (es:List (dh×dv)) (hT:cm w bt bm es) (hK:bR w) (s:Int) (n:List UInt8) (hk:ir (s,n))
 (p:Int) (t:Nat) (hg:aP es (s,n)=some (p,(t:Int))) (hp:0<=p/\p<=1200) (ht:1<=t/\t<=7):
 Calls prog 223 #[ah bt,ae s,af n] w fun e w'=>e=.returned (.tuple #[ae p,ae (p-oe t),ae (p-kS t)])/\aE w w':=by
 have hl:=jG hT.map hT.ok s n hk
 simp only[se,hg,Option.getD_some,Option.isSome_some]at hl
 obtain⟨k0,k1,k2⟩:=hK t ht.2
 obtain⟨ht1,ht2⟩:=ht
 obtain⟨hp1,hp2⟩:=hp
 obtain⟨l1,l2⟩:=Ac t
 obtain⟨r1,r2⟩:=xd t
 have h8:(t:Int)<8:=by omega
 have h0:0<w.heap.size:=hK.lt
 have hc:=hT.cell
 clear hT hk hK hg
 go_enter func223,ntmps223
 go_wp2
 go_quiet (fail)
 go_wp2
 go_ret3
 exact⟨rfl,below_drewN aB _⟩
theorem tj (w:World) (bt bm:Nat) (es:List (dh×dv)) (hT:cm w bt bm es) (s:Int) (n:List UInt8) (hk:ir (s,n)) (hg:aP es (s,n)=none):
 Calls prog 223 #[ah bt,ae s,af n] w fun e w'=>e=.returned (.tuple #[ae 0,ae 0,ae 0])/\aE w w':=by
 have hl:=jG hT.map hT.ok s n hk
 simp only[se,hg,Option.getD_none,Option.isSome_none]at hl
 have hc:=hT.cell
 clear hT hk hg
 go_enter func223,ntmps223
 go_wp2
 go_ret3
 exact⟨rfl,aB⟩
theorem kO (w:World) (bt bm:Nat) (es:List (dh×dv)) (hT:cm w bt bm es) (hK:bR w) (s:Int) (n:List UInt8) (hk:ir (s,n)):
 Calls prog 223 #[ah bt,ae s,af n] w fun e w'=>
  e=.returned (.tuple #[ae (bM es s n).1,ae (bM es s n).2.1,ae (bM es s n).2.2])/\aE w w':=by
 unfold bM
 cases hg:aP es (s,n)with
 |none=>exact tj w bt bm es hT s n hk hg
 |some v=>
  obtain⟨p,t⟩:=v
  obtain⟨_,_,g3,g4,g5,g6⟩:=hT.good _ (dA hg)
  simp only at g3 g4 g5 g6
  obtain⟨t,rfl⟩:=Int.eq_ofNat_of_zero_le (show 0<=t by omega)
  exact tP w bt bm es hT hK s n hk p t hg (by omega) (by omega)
def gP (n:List UInt8):Prop:=n.length<=maxLen
theorem gP.k {n:List UInt8} (h:gP n) (s:Int) (h1:0<=s/\s<=3):ir (s,n):=⟨by simp only;omega,h⟩
theorem vN (w:World) (bt bm:Nat) (es:List (dh×dv)) (hT:cm w bt bm es) (hK:bR w) (n:List UInt8) (hn:gP n):
 Calls prog 224 #[ah bt,af n] w fun e w'=>
  e=.returned (.tuple #[ae (bM es 2 n).1,ae (bM es 2 n).2.1,ae (bM es 2 n).2.2])/\aE w w':=by
 go_enter func224,ntmps224
 go_wp2_with (go_at_call 223;refine(kO _ bt bm es hT hK 2 n (hn.k 2 (by omega))).mono ?_;rintro e w1 ⟨rfl,hb⟩)
 go_ret3
 exact⟨rfl,hb⟩
theorem t8 (w:World) (bt bm:Nat) (es:List (dh×dv)) (hT:cm w bt bm es) (hK:bR w) (n:List UInt8) (hn:gP n):
 Calls prog 128 #[ah bt,af n] w fun e w'=>
  e=.returned (.tuple #[ae (bM es 1 n).1,ae (bM es 1 n).2.2])/\aE w w':=by
 go_enter func128,ntmps128
 go_wp2_with (go_at_call 223;refine(kO _ bt bm es hT hK 1 n (hn.k 1 (by omega))).mono ?_;rintro e w1 ⟨rfl,hb⟩)
 go_ret2
 exact⟨rfl,hb⟩
theorem sy (w:World) (bt bm:Nat) (es:List (dh×dv)) (hT:cm w bt bm es) (hK:bR w) (n:List UInt8) (hn:gP n):
 Calls prog 225 #[ah bt,af n] w fun e w'=>
  e=.returned (.tuple #[ae (bM es 3 n).1,ae (bM es 3 n).2.1])/\aE w w':=by
 go_enter func225,ntmps225
 go_wp2_with (go_at_call 223;refine(kO _ bt bm es hT hK 3 n (hn.k 3 (by omega))).mono ?_;rintro e w1 ⟨rfl,hb⟩)
 go_ret2
 exact⟨rfl,hb⟩
theorem ze {κ ν:Type} [DecidableEq κ] {l:List (κ×ν)} {k:κ} {v:ν} {x:κ×ν} (h:x∈cL l k v):x∈l\/x=(k,v):=by
 unfold cL at h
 split at h
 ·obtain⟨y,hy,rfl⟩:=List.mem_map.1 h
  split
  ·exact .inr rfl
  ·exact .inl hy
 ·rcases List.mem_append.1 h with h|h
  ·exact .inl h
  ·exact .inr (by simpa using h)
theorem cm.changed {w w':World} {bt bm:Nat} {es es':List (dh×dv)} (hT:cm w bt bm es) (hF:Fr (·=bm) w w') (hbb:bt≠bm) (hM:aW w' bm sN Dl es') (hg:∀x∈es',pz x):cm w' bt bm es':=
 ⟨(hF.cell (p:=(ak bt 0)) hT.lt hbb).trans hT.cell,hM,hg⟩
end
end Go.Proofs.YtigeofkllldilaaGreatDoor
