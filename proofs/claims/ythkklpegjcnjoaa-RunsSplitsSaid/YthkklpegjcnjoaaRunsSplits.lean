/- A part of the proof: no condition but those that each theorem states. -/
import Derived.Test.YthkklpegjcnjoaaEA
import Derived.Test.YthkklpegjcnjoaaTX
import Derived.Test.YthkklpegjcnjoaaLgB
import Derived.Test.YthkklpegjcnjoaaWSized
import Derived.Test.YthkklpegjcnjoaaRows
import Derived.WalkKit
import Derived.ProofKit
import Derived.OpenShut
import Derived.ShutString
import Derived.ChangeOld
import Derived.Below
import Derived.SizedLaws
set_option linter.unusedVariables false
set_option linter.unusedSimpArgs false
namespace Go.Proofs.Ythkklpegjcnjoaa.runsSplits
open Go.ChangeShapes Go.WideShapes Go.ChangeAt Go.RowKit
set_option linter.unusedVariables false
theorem own:ownKnob Try.prog.godebug=none:=by kernel_rfl
theorem laidOut:laidOutB Try.prog=true:=by kernel_rfl
theorem spot_of {P:Program} {W:World} {base:Nat} {t e:TypeId} {a:Option Addr} {len cap:Nat} (ht:P.underlying t=some (.slice e)) (h:Value.okWide P W .any base t (.slice a len cap)) :
 ∀ x,a=some x→x.spot=none∧∃ cs t fr,W.heap[x.block]?=some (.cells cs t fr):=by
 rintro x rfl
 simp only [Value.okWide,ht,Cell.okWide,Cell.ok,World.has] at h
 obtain ⟨_,_,_,hs,row,cells,hsh,_⟩:=h
 refine ⟨hs,?_⟩
 unfold World.shape? at hsh
 split at hsh
 ·rename_i c e f hb;exact ⟨c,e,f,hb⟩
 ·cases hsh
theorem yc_LB (c:Int):Yc.LB c=(lookF c).2.1:=by simp only [Yc]
theorem yc_LS (c:Int):Yc.LS c=(lookF c).1:=by simp only [Yc]
theorem cl_run:(List.range 121).all (fun i=>decide (0≤tbl.getD (i*5+3) 0))=true:=by kernel_rfl
theorem cl_run2:(List.range 121).all (fun i=>decide (tbl.getD (i*5+3) 0≤22))=true:=by kernel_rfl
theorem charAt_cls (T:List Int) (h:∀ i,i<121→0≤T.getD (i*5+3) 0∧T.getD (i*5+3) 0≤22) (n:Nat) (code:Int):0≤(charAt T n code).2.1∧(charAt T n code).2.1≤22:=by
 unfold charAt
 split
 ·rename_i hc
  exact h n hc.1
 ·exact ⟨Int.le_refl _,by dsimp only;omega⟩
theorem cls (c:Int):0≤Yc.LB c∧Yc.LB c≤22:=by
 rw [yc_LB,lookF]
 exact charAt_cls tbl (fun i hi=>⟨of_decide_eq_true (List.all_eq_true.1 cl_run i (List.mem_range.2 hi)),of_decide_eq_true (List.all_eq_true.1 cl_run2 i (List.mem_range.2 hi))⟩) _ c
theorem scr (c:Int):0≤Yc.LS c:=by rw [yc_LS];exact script_nonneg c
theorem oth2 {code a b last k:Int} {l:List Int} (h0:¬ k.tmod 2=1) (h1:(k+1).tmod 2=1):otherM code (a::b::l) last k=if a=code then (b,1) else if b=code then (a,2) else otherM code l b (k+1+1):=by
 simp only [otherM]
 rw [if_neg (fun x=>h0 x.1),if_neg (fun x=>h0 x.1)]
 by_cases ha:a=code
 ·rw [if_pos ⟨h1,ha⟩,if_pos ha]
 ·rw [if_neg (fun x=>ha x.2),if_neg ha]
  by_cases hb:b=code
  ·rw [if_pos ⟨h1,hb⟩,if_pos hb]
  ·rw [if_neg (fun x=>hb x.2),if_neg hb]
theorem br_eq:∀ (l:List Int) (code last k:Int),(∃ m:Nat,l.length=2*m)→0≤k→k%2=0→otherM code l last k=brD code l
 | [],_,_,_,_,_,_=>rfl
 | [a],_,_,_,⟨m,h⟩,_,_=>by simp at h;omega
 | a::b::l,code,last,k,⟨m,h⟩,h0,hk=>by
  have t0:k.tmod 2=k%2:=Int.tmod_eq_emod_of_nonneg h0
  have t1:(k+1).tmod 2=(k+1)%2:=Int.tmod_eq_emod_of_nonneg (by omega)
  rw [oth2 (by omega) (by omega),br_eq l code b (k+1+1) ⟨m-1,by simp at h;omega⟩ (by omega) (by omega)]
  simp only [brD]
  by_cases ha:a=code
  ·rw [if_pos ha,if_pos ha.symm]
  ·rw [if_neg ha,if_neg (fun x:code=a=>ha x.symm)]
   by_cases hb:b=code
   ·rw [if_pos hb,if_pos hb.symm]
   ·rw [if_neg hb,if_neg (fun x:code=b=>hb x.symm)]
theorem brk (x:Int):brD x brP=(Yc.BO x,Yc.BK x):=by
 have e:otherM x brL 0 0=brD x brP:=br_eq brL x 0 0 ⟨6,rfl⟩ (Int.le_refl _) rfl
 simp only [Yc]
 rw [e]
theorem srt (L:List (Int×Int)):(Yc.SM L).Pairwise (fun x y=>x.1≤y.1):=by
 have h:(L.mergeSort leF).Pairwise (fun a b=>leF a b=true):=List.pairwise_mergeSort (fun a b c h1 h2=>by
  unfold leF at *
  rw [decide_eq_true_eq] at *
  omega) (fun a b=>by
  unfold leF
  rw [Bool.or_eq_true,decide_eq_true_eq,decide_eq_true_eq]
  omega) L
 simp only [Yc]
 exact h.imp (fun {a b} h=>of_decide_eq_true h)
theorem handed_of {W:World} {a:Option Addr} {len cap:Nat} {zs:List Int} (hl:len≤zs.length) (hn:a=none→len=0∧cap=0) (hs:∀ x,a=some x→x.spot=none∧∃ cs t fr,W.heap[x.block]?=some (.cells cs t fr))
 (hc:∀ x,a=some x→∀ i,i<zs.length→W.cell? (x.add i)=some (.int .i64 (zs.getD i 0))):Ab.Handed W a len cap (zs.take len):=by
 have hlen:(zs.take len).length=len:=by rw [List.length_take];omega
 exact ⟨hlen,hn,hs,fun x hx i v hv=>by
  have hi:=(List.getElem?_eq_some_iff.mp hv).1
  rw [hlen] at hi
  rw [hc x hx i (by omega)]
  rw [List.getElem?_take,if_pos hi] at hv
  rw [List.getD_eq_getElem?_getD,hv];rfl⟩
theorem rdd {W:World} {a:Option Addr} {len cap:Nat} {C:List Int} (h:Ab.Handed W a len cap C) {D:Nat→Option Ab.HRow} {k ν:Nat} (hν:ν<k) (hd:D ν=Ab.Handed.row (W:=W) (a:=a) C):Rdd (Ab.hHpN D k) (a.map fun x=>⟨ν,x.off,none⟩) C:=fun i i0 i1=>by
 cases a with
 | none=>
  have hl:=(h.nil rfl).1
  have:=h.long
  omega
 | some x=>
  refine ⟨ν,x.off,_,rfl,by unfold Ab.hHpN;rw [if_pos hν,hd];rfl,?_⟩
  dsimp only
  rw [if_pos (Nat.le_add_right _ _),Nat.add_sub_cancel_left]
  have:=Ab.ints_get0 (L:=C) i0 i1
  rwa [Nat.zero_add] at this
theorem walk {W:World} {a:Option Addr} {la ca:Nat} {b:Int} {Ca:List Int} (ha:Ab.Handed W a la ca Ca) (hbig:la*8≤140737488351232) :
 Calls Try.prog 10 #[.slice a la ca,.int .i64 b] W fun e W'=>e = .returned (.bool true)∧Below W.heap.size W W':=by
 obtain ⟨D,hD0⟩:∃ D:Nat→Option Ab.HRow,D 0=Ab.Handed.row (W:=W) (a:=a) Ca:=⟨fun ν=>Ab.Handed.row (W:=W) (a:=a) Ca,rfl⟩
 have hD:∀ ν r,ν<1→D ν=some r→r.Ok W:=fun ν r hν hr=>by
  obtain rfl:ν=0:=by omega
  rw [hD0] at hr;exact (ha.ok hr).1
 refine Ab.calls_of_rows (k:=1) tbl_names hD (.cons (ha.vr (by omega) hD0) (.cons (.int _ _) .nil)) (Xc 1) (xc_calls _ 1) ?_
 have l0:=ha.long
 have s0:=fun H' hH=>ha.src (P:=Try.prog) (ν:=0) (k:=1) (by omega) hD0 (H:=H') hH
 have r0:=rdd ha (k:=1) (by omega) hD0
 subst l0
 exact splits_sp (xc_ok 1) brk srt cls scr (Ab.hModelsN fun ν r hν hr=>(hD ν r hν hr).fit) s0 r0 rfl hbig
set_option maxRecDepth 100000 in
theorem lifted (os:Os) (started:os.Started) (H:Type) (enc:TypeId×Value→H) :
 ReturnsInHanded {} Try.checked os 10 .any (Rows.runsSplitsSpec.pre6 enc Try.prog Try.f10 Rows.runsSplitsRow.domain false) (Rows.runsSplitsSpec.post enc Try.prog Try.f10 false true false false):=by
 refine returnsInHanded_of_change_sized (C:=Try.checked) own started (by kernel_rfl) Try.func10
  (ChangeSpec.witness6 (enc:=enc) (C:=Try.checked) false ⟨#[],#[.slice none 0 0,.int .i64 0],[]⟩ 8 (by kernel_rfl) (by kernel_rfl) (by kernel_rfl) (by kernel_rfl)) ?_
 intro W base args ds gs before hval0 hW hcnd hsz0 _
 have hsz:(DataW.weightsEach Try.prog (Try.f10.params.toList++Rows.runsSplitsSpec.plain.varTypes Try.prog) (ds++gs)).all (· ≤ reachBytes)=true:=hsz0
 have hval:∀ (j:Nat) t v,Try.f10.params[j]?=some t→args[j]?=some v→Value.okWide Try.prog W .any base t v:=hval0
 have hW':=hW
 obtain ⟨p,q,hA0,hV,rfl,hfz,hnd⟩:=hW
 have hA:DataW.TrodAll enc Try.prog W 0 (fun _=>true) true Try.f10.params.toList args.toList ds p:=hA0
 rw [Try.params10] at hA hval hsz
 obtain ⟨v0,vs0,d0,ds0,p0,q0,hargs,rfl,rfl,h0,r0⟩:=trodAll_cons hA
 obtain ⟨v1,vs1,d1,ds1,p1,q1,rfl,rfl,rfl,h1,r1⟩:=trodAll_cons r0
 obtain ⟨rfl,rfl,rfl⟩:=trodAll_nil r1
 obtain rfl:args = #[v0,v1]:=by cases args;simp_all
 obtain ⟨rfl,rfl⟩:=trodVars_none hV
 obtain ⟨a0,len0,cap0,rfl⟩:=okWide_slice Try.underlying23 (hval 0 23 v0 rfl rfl)
 obtain ⟨b,rfl⟩:∃ b,v1 = .int .i64 b:=by
  have h:=hval 1 3 v1 rfl rfl
  simp only [Value.okWide,Try.underlying3,Cell.okWide,Cell.ok] at h
  cases v1 <;> simp at h
  exact ⟨_,by rw [h.1]⟩
 have k0:=h0
 have k1:=h1
 have lt0:∀ x∈p0,x.block<W.heap.size:=by obtain ⟨m,hm⟩:=k0;exact DataW.trod_lt m _ _ _ hm
 have lt1:∀ x∈p1,x.block<W.heap.size:=by obtain ⟨m,hm⟩:=k1;exact DataW.trod_lt m _ _ _ hm
 obtain ⟨z0,hl0,hn0,hc0⟩:∃ zs:List Int,len0≤zs.length∧(a0=none→len0=0∧cap0=0)∧(∀ x,a0=some x→∀ i,i<zs.length→W.cell? (x.add i)=some (.int .i64 (zs.getD i 0))):=by
  obtain ⟨fuel,hf⟩:=h0
  rcases open_ints Try.underlying23 Try.underlying3 (by kernel_rfl) hf with ⟨hcs,_⟩ | ⟨x,l,c,zs,hcs,_,hl,hm,hz,_,hcell,hwz⟩
  ·simp [Value.cells] at hcs
   obtain ⟨rfl,rfl,rfl⟩:=hcs
   exact ⟨[],Nat.le_refl _,fun _=>⟨rfl,rfl⟩,fun x h=>by cases h⟩
  ·simp [Value.cells] at hcs
   obtain ⟨rfl,rfl,rfl⟩:=hcs
   have hz:zs.length=cap0:=by simpa using hz
   exact ⟨zs,by omega,(fun h=>by cases h),(fun y h=>by cases h;exact hcell)⟩
 have y0:len0*8≤140737488351232:=Go.Proofs.YthkklpegjcnjoaaW.PrintWords.sized_ints hsz (j:=0) (t:=23) rfl rfl Try.underlying23 Try.underlying3 (by kernel_rfl) (by kernel_rfl) h0
 have hs0:=spot_of Try.underlying23 (hval 0 23 _ rfl rfl)
 clear hA0 hval0 hsz0 hsz
 refine (walk (handed_of hl0 hn0 hs0 hc0) y0).mono fun e W' ⟨he,bel⟩=>?_
 subst he
 exact ⟨_,rfl,_,_,_,[],_,[],hW',trodAll_mk1 (shut_bool Try.underlying4 _),(trodAll_cons_mk (Below.trod laidOut (by kernel_rfl) (of_decide_eq_true (by kernel_rfl)) k0 bel lt0) (trodAll_cons_mk (Below.trod laidOut (by kernel_rfl) (of_decide_eq_true (by kernel_rfl)) k1 bel lt1) trodAll_mk0)),rfl,bel.frame _,fun h=>by cases h⟩
theorem over:Rows.runsSplitsRow.holds Try.pinned (OpenSpec.ofChange Rows.runsSplitsSpec):=
 OpenClaim.holds_of_wide 10 Try.f10 rfl rfl rfl rfl rfl rfl rfl ⟨rfl,rfl,rfl,rfl,rfl⟩ rfl rfl rfl rfl rfl (by kernel_rfl) Try.func10 (by kernel_rfl)
  (of_decide_eq_true (by kernel_rfl)) (by unfold Func.isWrapper;first | (rw [if_pos (by decide +kernel)];kernel_rfl) | (rw [if_neg (by decide +kernel)];exact ⟨rfl,rfl⟩))
  (fun os started H enc _=>lifted os started H enc)
theorem proved:Rows.RunsSplitsSaid:=over
#print axioms proved
end Go.Proofs.Ythkklpegjcnjoaa.runsSplits
namespace Go.Proofs.Ythkklpegjcnjoaa
theorem runsSplits_holds:Rows.RunsSplitsSaid:=runsSplits.proved
end Go.Proofs.Ythkklpegjcnjoaa
