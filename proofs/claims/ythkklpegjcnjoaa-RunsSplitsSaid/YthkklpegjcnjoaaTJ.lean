/- A part of the proof: no condition but those that each theorem states. -/
import Derived.Test.YthkklpegjcnjoaaLgT
import Derived.Test.YthkklpegjcnjoaaTC
import Derived.Test.YthkklpegjcnjoaaLgB
import Derived.Shelf.GgSortFunc.InsertionK
import Derived.RegionTactic
import Derived.WalkKit
import Derived.Sort.Grow
set_option linter.unusedVariables false
set_option linter.unusedSimpArgs false
namespace Go.Proofs.Ythkklpegjcnjoaa
open Go.Ab
variable {X:CallE} {ro:Nat}
set_option maxRecDepth 10000
def otherM (code:Int):List Int→Int→Int→Int×Int
 | [],_,_=>(0,0)
 | c::l,last,k=>if k.tmod 2=1∧last=code then (c,1) else if k.tmod 2=1∧c=code then (last,2) else otherM code l c (k+1)
theorem Runes.rng {b:ByteArray} {p:Nat} {l:List Int} (h:Runes b p l):∀ c∈l,0≤c:=by
 induction h with
 | nil h=>intro c hc;cases hc
 | cons h hd hr ih=>
  intro c hc
  rcases List.mem_cons.mp hc with rfl | hc
  ·exact Int.natCast_nonneg _
  ·exact ih c hc
set_option maxHeartbeats 4000000 in
theorem other_sp {s:St} {H:Hp} {b:ByteArray} {L:List Int} {code:Int} (hX:∀ args s,X 94 args s=none) (hM:Models ro s H) (hL:Runes b 0 L) (hsm:∀ c∈L,c<2147483648) (hlen:L.length<100000) :
 Sp X Try.prog ro 94 [.string b,.int .i64 code] s fun v H'=>v = .tuple #[.int .i64 (otherM code L 0 0).1,.int .i64 (otherM code L 0 0).2]∧H'=H:=by
 refine Sp.of_body (hX _ _) Try.func94 rfl Try.ntmps94 (by simp) ?_
 refine WC.seq (Rg (Av (z:=Av (z:=Nl (WC.seq (Rg (Av (z:=Av (z:=Nl (WC.seq (WC.seq (Rg (Mv (z:=Co ?_))))))))))))))
 refine SV.rangeStr hM Try.underlying9 rfl (fun a s1 hn1 hM1 hI1=>?_)
 refine Nl (WC.block ?_)
 refine WC.loop (D:=List Int×Nat×Int×Int) (fun x=>[(0,.string b),(1,.int .i64 code),(6,.int .i32 x.2.2.1),(7,.int .i64 x.2.2.2),(11,.pointer (some ⟨a,0,none⟩))])
  (fun x s2=>s.next≤s2.next∧Models ro s2 H∧ItAt ro s2 H a b x.2.1∧Runes b x.2.1 x.1∧(∀ c∈x.1,c<2147483648)∧otherM code x.1 x.2.2.1 x.2.2.2=otherM code L 0 0∧0≤x.2.2.2∧x.2.2.2+x.1.length<100000∧0≤x.2.2.1∧x.2.2.1<2147483648)
  (fun x=>x.1.length) (L,0,0,0) ?_ ⟨by omega,hM1,hI1,hL,hsm,rfl,Int.le_refl _,by dsimp only;omega,Int.le_refl _,by dsimp only;omega⟩ ?_
 ·exact Ho
 rintro ⟨l,p,last,k⟩ g s2 ⟨hn2,hM2,hI2,hR2,hs2,hres,hk0,hkl,hl0,hl1⟩
 dsimp only at hn2 hM2 hI2 hR2 hs2 hres hk0 hkl hl0 hl1 ⊢
 rw [←hres]
 refine WC.seq (Rg (Co ?_))
 cases hR2 with
 | nil hp=>
  refine SV.nextEnd hI2 rfl hp ?_
  refine Co (Et (z:=Nl (WC.seq (Cf (z:=WC.exit (WC.seq (Rg (Av (z:=Av (z:=Nl (WC.ret ?_)))))))))))
  exact fin_two (e:=.ret) (v:=.int .i64 0) (w:=.int .i64 0) rfl trivial rfl rfl hn2 hM2 ⟨rfl,rfl⟩
 | cons hp hd hr=>
  rename_i c w l2
  have hc0:(0:Int)≤(c:Int):=Int.natCast_nonneg _
  have hc1:=hs2 (c:Int) List.mem_cons_self
  rw [List.length_cons] at hkl
  push_cast at hkl
  refine SV.nextStr hM2 hI2 rfl hp hd (fun s3 hn3 hM3 hI3=>?_)
  generalize (c:Int)=c at hc0 hc1 hs2 hres ⊢
  refine Co (Et (z:=Nl (WC.seq (Ct (z:=WC.skip (WC.block (WC.seq (Rg (Co (Et (z:=Av (z:=Nl ?_))))))))))))
  by_cases h1:k.tmod 2=1∧last=code
  ·have hd1:decide (k.tmod 2=1)=true:=decide_eq_true h1.1
   have hd2:decide (last=code)=true:=decide_eq_true h1.2
   refine WC.seq (WC.block (WC.seq (Rg (Mv (z:=Co (Rm (z:=Co (Ei (z:=Mv (z:=Gy (z:=Mq (z:=?_))))))))))))
   all_goals (refine WO.guardY rfl rfl rfl (by assumption) (SV.conv64 Try.underlying21 Try.underlying3 rfl (by omega) ?_) (by decide))
   all_goals refine Gy (z:=Mq (z:=Gy (z:=Ei (z:=Co (Pt (z:=Av (z:=Nl ?_)))))))
   refine Ct (z:=WC.seq (Rg (Mv (z:=?_))))
   refine WO.cons (SV.conv64 Try.underlying21 Try.underlying3 rfl (by omega) ?_) (by decide)
   refine Av (z:=Av (z:=Nl (WC.ret ?_)))
   exact fin_two (e:=.ret) (v:=.int .i64 c) (w:=.int .i64 1) rfl trivial rfl rfl (by omega) hM3 ⟨by simp only [otherM,if_pos h1],rfl⟩
  ·have hb1:k.tmod 2=1→decide (last=code)=false:=fun h=>decide_eq_false (fun e=>h1 ⟨h,e⟩)
   rcases dc (k.tmod 2=1) with ⟨h2,hd1⟩ | ⟨h2,hd1⟩
   ·have hd2:=hb1 h2
    refine WC.seq (WC.block (WC.seq (Rg (Mv (z:=Co (Rm (z:=Co (Ei (z:=Mv (z:=Gy (z:=Mq (z:=?_))))))))))))
    all_goals (refine WO.guardY rfl rfl rfl (by assumption) (SV.conv64 Try.underlying21 Try.underlying3 rfl (by omega) ?_) (by decide))
    all_goals refine Gy (z:=Mq (z:=Gy (z:=Ei (z:=Co (Pt (z:=Av (z:=Nl ?_)))))))
    refine Cf (z:=WC.seq ?_)
    rcases dc (c=code) with ⟨h3,hd3⟩ | ⟨h3,hd3⟩
    ·refine Rg (Mv (z:=Co (Rm (z:=Co (Ei (z:=Mv (z:=Gy (z:=Mq (z:=?_)))))))))
     all_goals (refine WO.guardY rfl rfl rfl (by assumption) (SV.conv64 Try.underlying21 Try.underlying3 rfl (by omega) ?_) (by decide))
     all_goals refine Gy (z:=Mq (z:=Gy (z:=Ei (z:=Co (Pt (z:=Av (z:=Nl ?_)))))))
     refine Ct (z:=WC.seq (Rg (Mv (z:=?_))))
     refine WO.cons (SV.conv64 Try.underlying21 Try.underlying3 rfl (by omega) ?_) (by decide)
     refine Av (z:=Av (z:=Nl (WC.ret ?_)))
     exact fin_two (e:=.ret) (v:=.int .i64 last) (w:=.int .i64 2) rfl trivial rfl rfl (by omega) hM3 ⟨by simp only [otherM,if_neg h1,if_pos (And.intro h2 h3)],rfl⟩
    ·refine Rg (Mv (z:=Co (Rm (z:=Co (Ei (z:=Mv (z:=Gy (z:=Mq (z:=?_)))))))))
     all_goals (refine WO.guardY rfl rfl rfl (by assumption) (SV.conv64 Try.underlying21 Try.underlying3 rfl (by omega) ?_) (by decide))
     all_goals refine Gy (z:=Mq (z:=Gy (z:=Ei (z:=Co (Pt (z:=Av (z:=Nl ?_)))))))
     refine Cf (z:=WC.skip (WC.seq (Rg (Mv (z:=Av (z:=Nl (Rg (Mv (z:=Co (Ad (z:=Av (z:=Nl ?_))))))))))))
     exact ⟨rfl,(l2,p+w,c,k+1),Ho,⟨by omega,hM3,hI3,hr,fun x hx=>hs2 x (List.mem_cons_of_mem _ hx),by simp only [otherM,if_neg h1,if_neg (fun h:_∧_=>h3 h.2)],by dsimp only;omega,by dsimp only;omega,hc0,hc1⟩,by simp⟩
   ·refine WC.seq (WC.block (WC.seq (Rg (Mv (z:=Co (Rm (z:=Co (Ei (z:=Mv (z:=Gn (z:=Gn (z:=Gn (z:=Gn (z:=Co (Pf (z:=Av (z:=Nl (Cf (z:=WC.seq (Rg (Mv (z:=Co (Rm (z:=Co (Ei (z:=Mv (z:=Gn (z:=Gn (z:=Gn (z:=Gn (z:=Co (Pf (z:=Av (z:=Nl (Cf (z:=WC.skip (WC.seq (Rg (Mv (z:=Av (z:=Nl (Rg (Mv (z:=Co (Ad (z:=Av (z:=Nl ?_)))))))))))))))))))))))))))))))))))))))))))))))
    exact ⟨rfl,(l2,p+w,c,k+1),Ho,⟨by omega,hM3,hI3,hr,fun x hx=>hs2 x (List.mem_cons_of_mem _ hx),by simp only [otherM,if_neg h1,if_neg (fun h:_∧_=>h2 h.1)],by dsimp only;omega,by dsimp only;omega,hc0,hc1⟩,by simp⟩
def brT:ByteArray:=⟨#[40,41,91,93,123,125,227,128,136,227,128,137,227,128,138,227,128,139,227,128,140,227,128,141]⟩
def brL:List Int:=[40,41,91,93,123,125,12296,12297,12298,12299,12300,12301]
theorem runesS {b:ByteArray} {p c w:Nat} {l:List Int} (h:Nat.blt p b.data.toList.length=true) (hd:(Utf8.decode b p).1=c) (hw:(Utf8.decode b p).2=w) (hr:Runes b (p+w) l):Runes b p ((c:Int)::l):=
 .cons (Nat.blt_eq.mp h) (Prod.ext hd hw) hr
theorem br_runes:Runes brT 0 brL:=by
 have e:Runes brT 24 []:=.nil (Nat.le_of_ble_eq_true (by kernel_rfl))
 have e:=runesS (p:=21) (c:=12301) (w:=3) (by kernel_rfl) (by kernel_rfl) (by kernel_rfl) e
 have e:=runesS (p:=18) (c:=12300) (w:=3) (by kernel_rfl) (by kernel_rfl) (by kernel_rfl) e
 have e:=runesS (p:=15) (c:=12299) (w:=3) (by kernel_rfl) (by kernel_rfl) (by kernel_rfl) e
 have e:=runesS (p:=12) (c:=12298) (w:=3) (by kernel_rfl) (by kernel_rfl) (by kernel_rfl) e
 have e:=runesS (p:=9) (c:=12297) (w:=3) (by kernel_rfl) (by kernel_rfl) (by kernel_rfl) e
 have e:=runesS (p:=6) (c:=12296) (w:=3) (by kernel_rfl) (by kernel_rfl) (by kernel_rfl) e
 have e:=runesS (p:=5) (c:=125) (w:=1) (by kernel_rfl) (by kernel_rfl) (by kernel_rfl) e
 have e:=runesS (p:=4) (c:=123) (w:=1) (by kernel_rfl) (by kernel_rfl) (by kernel_rfl) e
 have e:=runesS (p:=3) (c:=93) (w:=1) (by kernel_rfl) (by kernel_rfl) (by kernel_rfl) e
 have e:=runesS (p:=2) (c:=91) (w:=1) (by kernel_rfl) (by kernel_rfl) (by kernel_rfl) e
 have e:=runesS (p:=1) (c:=41) (w:=1) (by kernel_rfl) (by kernel_rfl) (by kernel_rfl) e
 have e:=runesS (p:=0) (c:=40) (w:=1) (by kernel_rfl) (by kernel_rfl) (by kernel_rfl) e
 exact e
theorem bracket_sp {s:St} {H:Hp} {code:Int} (hX:∀ f args s,f=94∨f=86→X f args s=none) (hM:Models ro s H) :
 Sp X Try.prog ro 86 [.int .i64 code] s fun v H'=>v = .tuple #[.int .i64 (otherM code brL 0 0).1,.int .i64 (otherM code brL 0 0).2]∧H'=H:=by
 refine Sp.of_body (hX _ _ _ (.inr rfl)) Try.func86 rfl Try.ntmps86 (by simp) ?_
 refine WC.seq (Rg (Av (z:=Av (z:=Nl (WC.seq (Rg (Mv (z:=Co ?_))))))))
 refine SV.callM rfl rfl (other_sp (b:=brT) (L:=brL) (fun _ _=>hX _ _ _ (.inl rfl)) hM br_runes (by decide) (by decide)) ?_
 rintro v s1 H1 hn1 hM1 ⟨rfl,rfl⟩
 refine Co (Et (z:=Co (Et (z:=Av (z:=Av (z:=Nl (WC.ret ?_)))))))
 exact fin_two (e:=.ret) (v:=.int .i64 _) (w:=.int .i64 _) rfl trivial rfl rfl hn1 hM1 ⟨rfl,rfl⟩
open Go.Ab Go.Sort
def leF (x y:Int×Int):Bool:=decide (x.1≤y.1)
def sortM (L:List (Int×Int)):List (Int×Int):=L.mergeSort leF
theorem sortM_perm (L:List (Int×Int)):(sortM L).Perm L:=List.mergeSort_perm _ _
theorem sortM_len (L:List (Int×Int)):(sortM L).length=L.length:=(sortM_perm L).length_eq
theorem enc2_get:∀ (L:List (Int×Int)) (j:Nat),(L.flatMap enc2)[j]?=(L[j / 2]?).map (fun e=>if j%2=0 then Value.int .i64 e.1 else Value.int .i64 e.2)
 | [],j=>by simp
 | e::L,0=>rfl
 | e::L,1=>rfl
 | e::L,j+2=>by
  have h:=enc2_get L j
  rw [show (e::L).flatMap enc2 = .int .i64 e.1 :: .int .i64 e.2::L.flatMap enc2 from rfl,List.getElem?_cons_succ,List.getElem?_cons_succ,h,show (j+2) / 2=j / 2+1 by omega,show (j+2)%2=j%2 by omega,List.getElem?_cons_succ]
theorem enc2_length:∀ L:List (Int×Int),(L.flatMap enc2).length=L.length*2
 | []=>rfl
 | e::L=>by
  rw [show (e::L).flatMap enc2 = .int .i64 e.1 :: .int .i64 e.2::L.flatMap enc2 from rfl]
  simp only [List.length_cons,enc2_length L];omega
theorem enc2_inj:∀ {L M:List (Int×Int)},L.flatMap enc2=M.flatMap enc2→L=M
 | [],[],_=>rfl
 | [],_::_,h=>by cases h
 | _::_,[],h=>by cases h
 |(a,b)::L,(c,d)::M,h=>by
  have h':Value.int .i64 a::Value.int .i64 b::L.flatMap enc2=Value.int .i64 c::Value.int .i64 d::M.flatMap enc2:=h
  injection h' with h1 h2
  injection h2 with h2 h3
  cases h1;cases h2
  rw [enc2_inj h3]
theorem enc2_one (L:List (Int×Int)):(L.flatMap enc2).all oneC=true:=by
 rw [List.all_eq_true]
 intro v hv
 obtain ⟨e,_,he⟩:=List.mem_flatMap.mp hv
 simp only [enc2,List.mem_cons,List.not_mem_nil,or_false] at he
 rcases he with rfl | rfl <;> rfl
abbrev Ix:=Fin 100000
def toIx (e:Int×Int):Ix:=Fin.ofNat 100000 e.1.toNat
def sndOf:List (Int×Int)→Int→Int
 | [],_=>0
 | e::L,x=>if e.1=x then e.2 else sndOf L x
def encIx (L:List (Int×Int)) (x:Ix):List Value:=[.int .i64 (x.val:Int),.int .i64 (sndOf L (x.val:Int))]
def cmpIx (x y:Ix):Int:=(x.val:Int)-y.val
theorem toIx_val {e:Int×Int} (h:0≤e.1∧e.1<100000):((toIx e).val:Int)=e.1:=by
 show ((e.1.toNat%100000:Nat):Int)=e.1
 rw [Nat.mod_eq_of_lt (by omega)];omega
theorem sndOf_mem:∀ {L:List (Int×Int)},(L.map Prod.fst).Nodup→∀ e∈L,sndOf L e.1=e.2
 | a::L,hd,e,he=>by
  rw [List.map_cons,List.nodup_cons] at hd
  rcases List.mem_cons.mp he with rfl | he
  ·simp only [sndOf,if_true]
  ·have hne:a.1≠e.1:=fun h=>hd.1 (by rw [h];exact List.mem_map_of_mem he)
   simp only [sndOf,if_neg hne]
   exact sndOf_mem hd.2 e he
theorem encIx_toIx {L:List (Int×Int)} (hd:(L.map Prod.fst).Nodup) (hr:∀ x∈L.map Prod.fst,0≤x∧x<100000) {e:Int×Int} (he:e∈L):encIx L (toIx e)=enc2 e:=by
 unfold encIx enc2
 rw [toIx_val (hr _ (List.mem_map_of_mem he)),sndOf_mem hd e he]
theorem flat_eq {L M:List (Int×Int)} (hd:(L.map Prod.fst).Nodup) (hr:∀ x∈L.map Prod.fst,0≤x∧x<100000) (hM:∀ e∈M,e∈L):flatK (encIx L) 2 (M.map toIx).toArray=(M.flatMap enc2).toArray:=by
 apply Array.ext_getElem?
 intro j
 have hs:(flatK (encIx L) 2 (M.map toIx).toArray).size=M.length*2:=by rw [size_flatK];simp
 by_cases hj:j<M.length*2
 ·have hq:j / 2<M.length:=by omega
  have hg:=get_flatK (encIx L) 2 (M.map toIx).toArray j (by simpa using hj)
  rw [getElem!_pos _ j (by rw [hs];exact hj)] at hg
  rw [Array.getElem?_eq_getElem (by rw [hs];exact hj),hg]
  have e1:(M.map toIx).toArray[j / 2]! = toIx M[j / 2]:=by
   rw [getElem!_pos _ _ (by simpa using hq)];simp
  rw [e1,encIx_toIx hd hr (hM _ (List.getElem_mem hq))]
  rw [List.getElem?_toArray,enc2_get,List.getElem?_eq_getElem hq,Option.map_some]
  rcases Nat.mod_two_eq_zero_or_one j with h | h
  ·rw [h];rfl
  ·rw [h];rfl
 ·rw [Array.getElem?_eq_none (by rw [hs];omega),List.getElem?_toArray,List.getElem?_eq_none (by rw [enc2_length];omega)]
theorem sort_map {L:List (Int×Int)} (hr:∀ x∈L.map Prod.fst,0≤x∧x<100000):(L.map toIx).mergeSort (fun x y=> !(decide (cmpIx y x<0)))=(sortM L).map toIx:=by
 unfold sortM
 refine (List.map_mergeSort (fun a ha b hb=>?_)).symm
 have h1:=toIx_val (hr _ (List.mem_map_of_mem ha))
 have h2:=toIx_val (hr _ (List.mem_map_of_mem hb))
 unfold leF cmpIx
 rw [h1,h2]
 by_cases h:a.1≤b.1
 ·simp [h]
 ·simp [h];omega
theorem Step.sorted {B ro:Nat} {ρ:Ren} {s s':St} {w:World} {ν:Nat} {i:RI} {l:List Value} (hr:Rel B ro ρ s.heap.get w) (hi:ρ ν=some i) (h:stCells ro s ν 0 l=some s') (hc:∀ v∈l,∀ ρ,VR ρ v v) (m:Nat) (os:Array Go.Obj) :
 Step B ro ρ s w ρ s' (grow (putRow id (Sort.ahead w m) i.b i.r l.toArray) os):=by
 cases l with
 | nil=>
  simp only [stCells] at h;cases h
  refine Step.ofBelow hr ?_
  have e:putRow id (Sort.ahead w m) i.b i.r ([]:List Value).toArray=Sort.ahead w m:=mapBlock_id _ _ _ fun c e fr _=>by
   apply Array.ext_getElem?;intro k;simp only [putCells,Array.getElem?_mapIdx]
   cases c[k]? <;> simp
   intro h1 h2;omega
  rw [e]
  exact ⟨rfl,rfl,rfl,by simp [grow,Sort.ahead],fun k hk=>by
   show (w.heap++os)[k]?=_
   rw [Array.getElem?_append_left (show k<w.heap.size from hk)]⟩
 | cons v l=>
  simp only [stCells] at h
  split at h
  ·rename_i b hb
   obtain ⟨hb1,hb2⟩:=liveBlk_some hb
   cases hcn:(Nat.ble ro ν&&Nat.ble (0+(v::l).length) b.n&&(v::l).all oneC) with
   | false=>rw [hcn] at h;cases h
   | true=>
    rw [hcn] at h
    simp only [cond_true,T.setsK_eq,setObjK_eq] at h
    cases h
    simp only [Bool.and_eq_true,Nat.ble_eq] at hcn
    obtain ⟨⟨hc1,hc2⟩,hc3⟩:=hcn
    obtain ⟨hC,hn,ho,he⟩:=live_cells hr hb1 hb2 hi
    obtain ⟨cs,t,fr,h1,h2,h3,h4,h5,h6,h7⟩:=hC
    have hput:(putRow id (Sort.ahead w m) i.b i.r (v::l).toArray).heap[i.b]?=some (.cells (putCells id i.r (v::l).toArray cs) t fr):=by
     show ((Sort.ahead w m).heap.modify i.b _)[i.b]?=_
     rw [Array.getElem?_modify,if_pos rfl]
     show (w.heap[i.b]?).map _=_
     rw [h1];rfl
    have hoth:∀ k,k≠i.b→(putRow id (Sort.ahead w m) i.b i.r (v::l).toArray).heap[k]?=w.heap[k]?:=fun k hk=>by
     show ((Sort.ahead w m).heap.modify i.b _)[k]?=_
     rw [Array.getElem?_modify,if_neg (fun e=>hk e.symm)];rfl
    have hsz:(putRow id (Sort.ahead w m) i.b i.r (v::l).toArray).heap.size=w.heap.size:=by
     show ((Sort.ahead w m).heap.modify i.b _).size=_
     rw [Array.size_modify];rfl
    have st:Step B ro ρ s w ρ ⟨s.heap.set ν (.cells { b with cells:=T.sets (v::l) 0 b.cells }),s.next⟩ (putRow id (Sort.ahead w m) i.b i.r (v::l).toArray):=by
     refine Step.turn hr hc1 hi hb1 (by simp [AObj.alive,hb2]) hsz hoth rfl rfl rfl ⟨hn,ho,he,fun _=>⟨putCells id i.r (v::l).toArray cs,t,fr,hput,by simp [putCells,h2],h3,by simpa [putCells] using h4,h5,h6,fun j u hu=>?_⟩⟩
     rcases cellAt_sets hc2 hu with ⟨a1,a2,a3⟩ | ⟨a1,a2⟩
     ·have hj:j<(v::l).length:=by omega
      rw [Nat.sub_zero] at a3
      refine ⟨u,?_,hc u (List.mem_of_getElem? a3) ρ⟩
      have hlt:i.r+j<cs.size:=by omega
      simp only [putCells,Array.getElem?_mapIdx,Array.getElem?_eq_getElem hlt,Option.map_some]
      rw [if_pos ⟨by omega,by simpa using hj⟩,Nat.add_sub_cancel_left,getElem!_pos _ j (by simpa using hj)]
      rw [List.getElem?_eq_getElem hj] at a3
      simpa using a3
     ·obtain ⟨u',e1,e2⟩:=h7 j u a2
      refine ⟨u',?_,e2⟩
      have hlt:i.r+j<cs.size:=(Array.getElem?_eq_some_iff.mp e1).1
      have hjl:¬ (j<0+(v::l).length):=fun h=>a1 ⟨Nat.zero_le _,h⟩
      simp only [putCells,Array.getElem?_mapIdx,e1,Option.map_some]
      rw [if_neg (fun h=>hjl (by have:=h.2;simp only [List.size_toArray] at this;omega))]
    refine st.trans (Step.ofBelow st.rel ⟨rfl,rfl,rfl,by simp [grow],fun k hk=>?_⟩)
    show ((putRow id (Sort.ahead w m) i.b i.r (v::l).toArray).heap++os)[k]?=_
    rw [Array.getElem?_append_left hk]
  ·cases h
theorem own_thawed {B ro:Nat} {ρ:Ren} {s:St} {w:World} {ν n:Nat} {i:RI} {l:List Value} (hr:Rel B ro ρ s.heap.get w) (hi:ρ ν=some i) (hν:ro≤ν) (h:ldCells s ν 0 n=some l) (hn:n≠0) {o:Nat} {v:Value} (hc:w.cell? ⟨i.b,o,none⟩=some v) :
 w.frozen? ⟨i.b,o,none⟩=false:=by
 obtain ⟨n,rfl⟩:∃ m,n=m+1:=⟨n-1,by omega⟩
 simp only [ldCells] at h
 split at h
 ·rename_i b hb
  obtain ⟨hb1,hb2⟩:=liveBlk_some hb
  obtain ⟨cs,t,fr,h1,h2,h3,h4,h5,h6,h7⟩:=(live_cells hr hb1 hb2 hi).1
  have h4:=h4 (hr.own ν i hi hν).2
  have ho:o<cs.size:=by
   simp only [World.cell?,h1] at hc
   exact (Array.getElem?_eq_some_iff.mp (by simpa using hc)).1
  simp only [World.frozen?,h1]
  rcases h4 with h4 | h4
  ·simp;omega
  ·simp;omega
 ·cases h
open Go.RowKit Go.Sort
theorem closure88 (a b c d:Int) (W:World) (ha:0≤a∧a<100000) (hc:0≤c∧c<100000) :
 Calls Try.prog 88 #[.agg #[.int .i64 a,.int .i64 b],.agg #[.int .i64 c,.int .i64 d]] W fun e w'=>e = .returned (.int .i64 (a-c))∧∃ q os',w'=grow (W.drewN q) os':=by
 go_enter Try.func88,Try.ntmps88
 go_wp2
 go_ret
 exact ⟨by first | rfl | simp,0,_,by rw [alloc_eq_grow,alloc_eq_grow,grow_grow];rfl⟩
end Go.Proofs.Ythkklpegjcnjoaa
