/- A run in pieces says the same as a whole one: no condition but that each piece is right. -/
import Derived.Test.YthkklpegjcnjoaaEvC
import Derived.Test.YthkklpegjcnjoaaEv25
namespace Go.Ab
def PointS (P:Program) (ro:Nat) (f:FuncId) (args:List Value) (s:St) (r:Ret):Prop:=
 ∀ (B:Nat) (ρ:Ren) (w:World) (args':Array Value),Rel B ro ρ s.heap.get w→ro≤s.next→Wf s→VRs ρ args args'.toList→Fresh ρ s r.st →
  (∃ fn, P.funcs[f]? = some fn ∧ fn.name ≠ "runtime.NumGoroutine" ∧ fn.body.isSome = true) ∧
  Calls P f args' w fun e w'=>∃ ρ',Step B ro ρ s w ρ' r.st w'∧RetR ρ' r e
def Ent.Ok (P:Program) (ro:Nat) (e:Ent):Prop:=PointS P ro e.f e.args e.s (.ok e.v e.s')
section
variable {fns:FuncId→Option Func} {P:Program} {ro B:Nat}
theorem layer_sim (hfns : ∀ f fn, fns f = some fn → P.funcs[f]? = some fn ∧ fn.name ≠ "runtime.NumGoroutine") {callF : CallE} (ih : CallS P B ro callF) (k : Nat) : CallS P B ro (layer fns P ro callF k) :=
 fun f args s r h ρ w args' hr hro hwf hargs hf=>by
  have hds:=evalD_sim hfns ih k
  unfold layer at h
  split at h
  ·rename_i fn hfn
   split at h
   ·rename_i c hb
    cases hble:Nat.ble args.length fn.ntmps with
    | false=>rw [hble] at h;cases h
    | true=>
     rw [hble] at h
     simp only [cond_true,T.setsK_eq] at h
     obtain ⟨p1,p2⟩:=hfns f fn hfn
     refine ⟨⟨fn,p1,p2,by rw [hb];rfl⟩,calls_of_wp_defers p1 hb ?_⟩
     split at h
     ·rename_i o he
      have hfin:∃ u,(∀ ρ e',ExR ρ o.e e'→∃ u',MdR ρ u u'∧((e' = .normal∧u' = .returning)∨(e' = .ret∧u' = .returning)∨∃ ch',e' = .panic ch'∧u' = .panicking ch'))∧leave P (evalD fns P ro callF k) fn o.a.tm o.a.defers u o.s=some r:=by
       obtain ⟨e,a1,s1⟩:=o
       cases e with
       | normal=>exact ⟨.returning,fun ρ e' hx=>by cases e' <;> first | exact hx.elim | exact ⟨.returning,trivial,.inl ⟨rfl,rfl⟩⟩,h⟩
       | ret=>exact ⟨.returning,fun ρ e' hx=>by cases e' <;> first | exact hx.elim | exact ⟨.returning,trivial,.inr (.inl ⟨rfl,rfl⟩)⟩,h⟩
       | panic ch=>exact ⟨.panicking ch,fun ρ e' hx=>by cases e' <;> first | exact hx.elim | exact ⟨.panicking _,hx,.inr (.inr ⟨_,rfl,rfl⟩)⟩,h⟩
       | exit id=>cases h
      obtain ⟨u,hu,hlv⟩:=hfin
      have hn:=leave_next _ _ _ _ hlv
      refine evalC_sim ih k c _ s o he ρ w _ _ hr (act_init hargs (Nat.le_of_ble_eq_true hble)) hro hwf (hf.left hn) fun ρ' w' ac' e' q1 q2 q3=>?_
      obtain ⟨u',hmd,hcase⟩:=hu ρ' e' q3
      have hl:=leave_sim hds (R:=fun e w'=>∃ ρ',Step B ro ρ s w ρ' r.st w'∧RetR ρ' r e) _ u o.s hlv ρ' w' ac'.defers u' q1.rel q2.tm q2.defers hmd (Nat.le_trans hro q1.next) (q1.wf hwf) (hf.right q1)
       fun ρ2 w2 e2 z1 z2=>⟨ρ2,q1.trans z1,z2⟩
      rcases hcase with ⟨rfl,rfl⟩ | ⟨rfl,rfl⟩ | ⟨ch',rfl,rfl⟩
      ·exact hl
      ·exact hl
      ·exact hl
     ·cases h
   ·cases h
  ·cases h
end
end Go.Ab
