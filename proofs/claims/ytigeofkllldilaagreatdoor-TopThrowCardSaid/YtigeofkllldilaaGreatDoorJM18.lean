import Derived.Test.YtigeofkllldilaaGreatDoorJM17
set_option maxHeartbeats 32000000
set_option maxRecDepth 100000
set_option linter.unusedSectionVars false
open Go.Proofs.Tryz
namespace Go.Proofs.YtigeofkllldilaaGreatDoor
section
open Go.RowKit Go.Maps
def Eg (r:Value) (n:Nat):Value:=.func (Fn.func n) #[r] #[]
def xy:List Nat:=[4,8,12,16,20,24,28,32,36,40,44,48,52,56]
def CH:Nat->PK×Nat
 |4=>(([61],2),90)
 |8=>(([92,61],2),91)
 |12=>(([117,110,105,102,121,95,119,105,116,104,95,111,99,99,117,114,115,95,99,104,101,99,107],2),92)
 |16=>(([99,111,112,121,95,116,101,114,109],2),93)
 |20=>(([97,115,115,101,114,116,122],1),94)
 |24=>(([97,115,115,101,114,116,97],1),95)
 |28=>(([114,101,116,114,97,99,116],1),96)
 |32=>(([97,98,111,108,105,115,104],1),97)
 |36=>(([100,121,110,97,109,105,99],1),98)
 |40=>(([119,114,105,116,101],1),99)
 |44=>(([119,114,105,116,101,113],1),100)
 |48=>(([119,114,105,116,101,95,99,97,110,111,110,105,99,97,108],1),101)
 |52=>(([110,108],0),102)
 |56=>(([111,112],3),103)
 |_=>(([],0),0)
def sB:List (PK×Nat):=xy.map CH
theorem aY {P:Program} {ops:Array Oper} {Q:Exit->Act->World->Prop} {i:Nat} {oi:Oper} {v:Value} {fuel:Nat} {listed:Array Bool} {a:Act} {w:World} (hi:ops[i]?=some oi)
 (hs:(Region.noSelect ops&&(Region.free .any ops listed i&&(Region.ready .any ops listed).contains i))=true) (hQ:∀c a w,Q (.panic c) (a.put oi.dst v) w->Q (.panic c) a w) (hy:Yields P ops oi v a)
 (h:wpAny P .any ops Q fuel (listed.setIfInBounds i true) (a.put oi.dst v) w):wpAny P .any ops Q (fuel+1) listed a w:=by
 simp only[Bool.and_eq_true]at hs
 exact wpAny_take hi hs.1 hs.2.1 hs.2.2 hQ hy h
theorem ux (w:World) (r:Value):Calls prog 39 #[r] w fun e w'=>∃b,e=.returned (.map (some b))/\Cr w w' b pk (Eg r) ez sB:=by
 have M0:=n7.made (ek:=pk) (ev:=Eg r) (okk:=ez) (w:=w) (u:=w.drew) (aA.drew)
 obtain⟨u0,hu0⟩:∃u,u=w.drew.alloc (.map #[] 0):=⟨_,rfl⟩
 have hmm:(Instr.makeMap 122 none).run prog w.drew=.ok (.map (some w.heap.size)) u0:=by
  rw[hu0]
  simp[Instr.makeMap,Result.andThen]
 rw[<-hu0,show w.drew.heap.size=w.heap.size from rfl]at M0
 clear hu0
 have HM:=ad M0
 clear M0
 go_enter func39,ntmps39
 go_wp2_with fail
 refine wp_region_any (by kernel_rfl) ?_
 refine aY (i:=1) (v:=.agg #[.string ⟨#[61]⟩,ae 2]) rfl (by kernel_rfl) (fun _ _ _ h=>h) (Or.inl ⟨by rfl,by intro w;go_simp⟩) ?_
 refine aY (i:=2) (v:=r) rfl (by kernel_rfl) (fun _ _ _ h=>h) (Or.inl ⟨by rfl,by intro w;go_simp⟩) ?_
 refine aY (i:=3) (v:=.func (Fn.func 90) #[r] #[]) rfl (by kernel_rfl) (fun _ _ _ h=>h) (Or.inl ⟨by rfl,by intro w;go_simp⟩) ?_
 refine aY (i:=5) (v:=.agg #[.string ⟨#[92,61]⟩,ae 2]) rfl (by kernel_rfl) (fun _ _ _ h=>h) (Or.inl ⟨by rfl,by intro w;go_simp⟩) ?_
 refine aY (i:=6) (v:=r) rfl (by kernel_rfl) (fun _ _ _ h=>h) (Or.inl ⟨by rfl,by intro w;go_simp⟩) ?_
 refine aY (i:=7) (v:=.func (Fn.func 91) #[r] #[]) rfl (by kernel_rfl) (fun _ _ _ h=>h) (Or.inl ⟨by rfl,by intro w;go_simp⟩) ?_
 refine aY (i:=9) (v:=.agg #[.string ⟨#[117,110,105,102,121,95,119,105,116,104,95,111,99,99,117,114,115,95,99,104,101,99,107]⟩,ae 2]) rfl (by kernel_rfl) (fun _ _ _ h=>h) (Or.inl ⟨by rfl,by intro w;go_simp⟩) ?_
 refine aY (i:=10) (v:=r) rfl (by kernel_rfl) (fun _ _ _ h=>h) (Or.inl ⟨by rfl,by intro w;go_simp⟩) ?_
 refine aY (i:=11) (v:=.func (Fn.func 92) #[r] #[]) rfl (by kernel_rfl) (fun _ _ _ h=>h) (Or.inl ⟨by rfl,by intro w;go_simp⟩) ?_
 refine aY (i:=13) (v:=.agg #[.string ⟨#[99,111,112,121,95,116,101,114,109]⟩,ae 2]) rfl (by kernel_rfl) (fun _ _ _ h=>h) (Or.inl ⟨by rfl,by intro w;go_simp⟩) ?_
 refine aY (i:=14) (v:=r) rfl (by kernel_rfl) (fun _ _ _ h=>h) (Or.inl ⟨by rfl,by intro w;go_simp⟩) ?_
 refine aY (i:=15) (v:=.func (Fn.func 93) #[r] #[]) rfl (by kernel_rfl) (fun _ _ _ h=>h) (Or.inl ⟨by rfl,by intro w;go_simp⟩) ?_
 refine aY (i:=17) (v:=.agg #[.string ⟨#[97,115,115,101,114,116,122]⟩,ae 1]) rfl (by kernel_rfl) (fun _ _ _ h=>h) (Or.inl ⟨by rfl,by intro w;go_simp⟩) ?_
 refine aY (i:=18) (v:=r) rfl (by kernel_rfl) (fun _ _ _ h=>h) (Or.inl ⟨by rfl,by intro w;go_simp⟩) ?_
 refine aY (i:=19) (v:=.func (Fn.func 94) #[r] #[]) rfl (by kernel_rfl) (fun _ _ _ h=>h) (Or.inl ⟨by rfl,by intro w;go_simp⟩) ?_
 refine aY (i:=21) (v:=.agg #[.string ⟨#[97,115,115,101,114,116,97]⟩,ae 1]) rfl (by kernel_rfl) (fun _ _ _ h=>h) (Or.inl ⟨by rfl,by intro w;go_simp⟩) ?_
 refine aY (i:=22) (v:=r) rfl (by kernel_rfl) (fun _ _ _ h=>h) (Or.inl ⟨by rfl,by intro w;go_simp⟩) ?_
 refine aY (i:=23) (v:=.func (Fn.func 95) #[r] #[]) rfl (by kernel_rfl) (fun _ _ _ h=>h) (Or.inl ⟨by rfl,by intro w;go_simp⟩) ?_
 refine aY (i:=25) (v:=.agg #[.string ⟨#[114,101,116,114,97,99,116]⟩,ae 1]) rfl (by kernel_rfl) (fun _ _ _ h=>h) (Or.inl ⟨by rfl,by intro w;go_simp⟩) ?_
 refine aY (i:=26) (v:=r) rfl (by kernel_rfl) (fun _ _ _ h=>h) (Or.inl ⟨by rfl,by intro w;go_simp⟩) ?_
 refine aY (i:=27) (v:=.func (Fn.func 96) #[r] #[]) rfl (by kernel_rfl) (fun _ _ _ h=>h) (Or.inl ⟨by rfl,by intro w;go_simp⟩) ?_
 refine aY (i:=29) (v:=.agg #[.string ⟨#[97,98,111,108,105,115,104]⟩,ae 1]) rfl (by kernel_rfl) (fun _ _ _ h=>h) (Or.inl ⟨by rfl,by intro w;go_simp⟩) ?_
 refine aY (i:=30) (v:=r) rfl (by kernel_rfl) (fun _ _ _ h=>h) (Or.inl ⟨by rfl,by intro w;go_simp⟩) ?_
 refine aY (i:=31) (v:=.func (Fn.func 97) #[r] #[]) rfl (by kernel_rfl) (fun _ _ _ h=>h) (Or.inl ⟨by rfl,by intro w;go_simp⟩) ?_
 refine aY (i:=33) (v:=.agg #[.string ⟨#[100,121,110,97,109,105,99]⟩,ae 1]) rfl (by kernel_rfl) (fun _ _ _ h=>h) (Or.inl ⟨by rfl,by intro w;go_simp⟩) ?_
 refine aY (i:=34) (v:=r) rfl (by kernel_rfl) (fun _ _ _ h=>h) (Or.inl ⟨by rfl,by intro w;go_simp⟩) ?_
 refine aY (i:=35) (v:=.func (Fn.func 98) #[r] #[]) rfl (by kernel_rfl) (fun _ _ _ h=>h) (Or.inl ⟨by rfl,by intro w;go_simp⟩) ?_
 refine aY (i:=37) (v:=.agg #[.string ⟨#[119,114,105,116,101]⟩,ae 1]) rfl (by kernel_rfl) (fun _ _ _ h=>h) (Or.inl ⟨by rfl,by intro w;go_simp⟩) ?_
 refine aY (i:=38) (v:=r) rfl (by kernel_rfl) (fun _ _ _ h=>h) (Or.inl ⟨by rfl,by intro w;go_simp⟩) ?_
 refine aY (i:=39) (v:=.func (Fn.func 99) #[r] #[]) rfl (by kernel_rfl) (fun _ _ _ h=>h) (Or.inl ⟨by rfl,by intro w;go_simp⟩) ?_
 refine aY (i:=41) (v:=.agg #[.string ⟨#[119,114,105,116,101,113]⟩,ae 1]) rfl (by kernel_rfl) (fun _ _ _ h=>h) (Or.inl ⟨by rfl,by intro w;go_simp⟩) ?_
 refine aY (i:=42) (v:=r) rfl (by kernel_rfl) (fun _ _ _ h=>h) (Or.inl ⟨by rfl,by intro w;go_simp⟩) ?_
 refine aY (i:=43) (v:=.func (Fn.func 100) #[r] #[]) rfl (by kernel_rfl) (fun _ _ _ h=>h) (Or.inl ⟨by rfl,by intro w;go_simp⟩) ?_
 refine aY (i:=45) (v:=.agg #[.string ⟨#[119,114,105,116,101,95,99,97,110,111,110,105,99,97,108]⟩,ae 1]) rfl (by kernel_rfl) (fun _ _ _ h=>h) (Or.inl ⟨by rfl,by intro w;go_simp⟩) ?_
 refine aY (i:=46) (v:=r) rfl (by kernel_rfl) (fun _ _ _ h=>h) (Or.inl ⟨by rfl,by intro w;go_simp⟩) ?_
 refine aY (i:=47) (v:=.func (Fn.func 101) #[r] #[]) rfl (by kernel_rfl) (fun _ _ _ h=>h) (Or.inl ⟨by rfl,by intro w;go_simp⟩) ?_
 refine aY (i:=49) (v:=.agg #[.string ⟨#[110,108]⟩,ae 0]) rfl (by kernel_rfl) (fun _ _ _ h=>h) (Or.inl ⟨by rfl,by intro w;go_simp⟩) ?_
 refine aY (i:=50) (v:=r) rfl (by kernel_rfl) (fun _ _ _ h=>h) (Or.inl ⟨by rfl,by intro w;go_simp⟩) ?_
 refine aY (i:=51) (v:=.func (Fn.func 102) #[r] #[]) rfl (by kernel_rfl) (fun _ _ _ h=>h) (Or.inl ⟨by rfl,by intro w;go_simp⟩) ?_
 refine aY (i:=53) (v:=.agg #[.string ⟨#[111,112]⟩,ae 3]) rfl (by kernel_rfl) (fun _ _ _ h=>h) (Or.inl ⟨by rfl,by intro w;go_simp⟩) ?_
 refine aY (i:=54) (v:=r) rfl (by kernel_rfl) (fun _ _ _ h=>h) (Or.inl ⟨by rfl,by intro w;go_simp⟩) ?_
 refine aY (i:=55) (v:=.func (Fn.func 103) #[r] #[]) rfl (by kernel_rfl) (fun _ _ _ h=>h) (Or.inl ⟨by rfl,by intro w;go_simp⟩) ?_
 refine wpAny_all (rs:=[0]) (by kernel_rfl) (by simp) (fun i hi=>?_)
 obtain rfl:i=0:=by simpa using hi
 refine wpOp_step rfl (fun K hK=>?_)
 rw[if_pos (by rfl)]
 go_simp
 refine hK _ _ ?_
 refine nU (js:=xy) (fst:=57) (rest:=[58]) (full:=(Array.replicate 57 true).push false|>.push false) (by kernel_rfl) (by kernel_rfl) 2 _ (fun left u=>mT w w.heap.size pk (Eg r) ez xy CH left u) ?hs ?hl 14 xy _ _ rfl (fun _ h=>h) (by decide) (jl.of (by kernel_rfl)) (mT.start HM.out)
 case hs=>
  intro left i u hn hi hj hG
  obtain⟨u',e,hG'⟩:=hG.put EK underlying122 (by decide) hj ((show∀i∈xy,ez (CH i).1 by unfold ez;decide) i hj) hn
  have HG:=ad hG'
  clear hG hG' hmm HM hK hi
  simp only[xy,List.mem_cons,List.not_mem_nil,or_false]at hj
  rcases hj with rfl|rfl|rfl|rfl|rfl|rfl|rfl|rfl|rfl|rfl|rfl|rfl|rfl|rfl
  all_goals
   simp only[CH,pk,Eg]at e
   refine wpOp_step rfl (fun K hK=>?_)
   rw[if_pos (by rfl)]
   go_simp
   exact hK _ _ ⟨rfl,HG.out⟩
 case hl=>
  intro u hG
  have HG:=ad (hG.all (l:=sB) rfl (by decide))
  clear hG
  refine aY (i:=57) (v:=.map (some w.heap.size)) rfl (by kernel_rfl) (fun _ _ _ h=>h) (Or.inl ⟨by rfl,by intro w;go_simp⟩) ?_
  refine aY (i:=58) (v:=.map (some w.heap.size)) rfl (by kernel_rfl) (fun _ _ _ h=>h) (Or.inl ⟨by rfl,by intro w;go_simp⟩) ?_
  refine wpAny_done (by kernel_rfl) ?_ 0
  clear hmm HM hi hK K
  go_wp2_with fail
  go_ret
  exact⟨_,rfl,HG.out⟩
end
end Go.Proofs.YtigeofkllldilaaGreatDoor
