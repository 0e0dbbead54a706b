/- A part of the proof that what the evaluator says of a piece of code, the model does: no condition but those that each theorem states. -/
import Derived.Test.YtneiaobhjjbedaaEv5
import Derived.Lib.ConvBytes
import Derived.Laws.BytesArg
namespace Go.Ab

section
variable {P : Program} {B ro : Nat} {ρ : Ren} {s : St} {w : World} {tm : T Value} {ac : Act}

theorem eqGuard_ok {op : BinOp} {t : TypeId} {x y : Operand} {a b a' b' : Value} (ha : VR ρ a a') (hb : VR ρ b b') (hs : eqShape a = true) (hs2 : eqShape b = true) (h : guardOk P t x y a b = true) :
    (eqGuard op t x y a' b').run P w = .ok () w := by
  by_cases hop : op = .eql ∨ op = .neq
  · have e0 : eqGuard op t x y a' b' = eqGuard .eql t x y a' b' := by rcases hop with rfl | rfl <;> rfl
    rw [e0]
    cases ha <;> first
      | (simp [eqShape] at hs; done)
      | rfl
      | skip
    · cases hb <;> first
        | (simp [eqShape] at hs2; done)
        | rfl
        | skip
      simp only [guardOk] at h
      cases x <;> cases y <;> first
        | rfl
        | (simp [isConstO] at h; done)
    · cases hb <;> first
        | (simp [eqShape] at hs2; done)
        | rfl
        | skip
      simp only [guardOk] at h
      exact run_eqGuard_agg w _ _ _ _ _ _ (by simpa using h)
  · cases op <;> first | rfl | exact absurd (.inl rfl) hop | exact absurd (.inr rfl) hop

theorem eqGuard_num {op : BinOp} {t : TypeId} {x y : Operand} {k k' : IntKind} {m n : Int} : (eqGuard op t x y (.int k m) (.int k' n)).run P w = .ok () w := by cases op <;> rfl
theorem eqGuard_str {op : BinOp} {t : TypeId} {x y : Operand} {m n : ByteArray} : (eqGuard op t x y (.string m) (.string n)).run P w = .ok () w := by cases op <;> rfl

theorem binOp_eql {t : TypeId} {a a' b' : Value} (ha : VR ρ a a') (hs : eqShape a = true) : (binOp .eql t a' b').run P w = ((Op.equal t a' b').run P w).andThen fun r w => .ok (.bool r) w := by
  cases ha <;> simp [eqShape] at hs <;> (cases b' <;> simp [binOp])
theorem binOp_neq {t : TypeId} {a a' b' : Value} (ha : VR ρ a a') (hs : eqShape a = true) : (binOp .neq t a' b').run P w = ((Op.equal t a' b').run P w).andThen fun r w => .ok (.bool (!r)) w := by
  cases ha <;> simp [eqShape] at hs <;> (cases b' <;> simp [binOp])

theorem ok_binOp {o : Oper} {op : BinOp} {t u : TypeId} {x y : Operand} {r : Res} (ho : o.op = .binOp op t x y u) (h : evalOp P ro tm o.op s = some r) : OpOk P B ro tm o s r := by
  intro ρ w ac hr ht hro hfr
  rw [ho] at h; simp only [evalOp] at h
  have hx := opv_rel ht x
  have hy := opv_rel ht y
  split at h
  · rename_i v hv
    cases h
    have key : ∀ v', (eqGuard op t x y (ac.eval x) (ac.eval y)).run P w = .ok () w → (binOp op t (ac.eval x) (ac.eval y)).run P w = .ok v' w →
        (execOp ac.eval o).run P w = .ok (.value v') w := by
      intro v' h1 h2
      simp [execOp, ho, h1, h2]
    unfold bin at hv
    split at hv
    · rename_i k m k' n ha hb
      rw [ha] at hx; rw [hb] at hy
      rw [hx.int_inv, hy.int_inv] at key
      have hc : ∃ k n, v = .int k n := by
        unfold shiftBin at hv; split at hv
        · cases hv
        · exact ⟨_, _, (by cases hv; rfl)⟩
      obtain ⟨k2, n2, rfl⟩ := hc
      exact .same hr (key _ eqGuard_num (run_shiftBin (.inl rfl) hv)) (.int _ _)
    · rename_i k m k' n ha hb
      rw [ha] at hx; rw [hb] at hy
      rw [hx.int_inv, hy.int_inv] at key
      have hc : ∃ k n, v = .int k n := by
        unfold shiftBin at hv; split at hv
        · cases hv
        · exact ⟨_, _, (by cases hv; rfl)⟩
      obtain ⟨k2, n2, rfl⟩ := hc
      exact .same hr (key _ eqGuard_num (run_shiftBin (.inr rfl) hv)) (.int _ _)
    · rename_i k m k' n _ _ ha hb
      rw [ha] at hx; rw [hb] at hy
      rw [hx.int_inv, hy.int_inv] at key
      split at hv
      · rename_i hk
        subst hk
        have hc : (∃ k n, v = .int k n) ∨ ∃ b, v = .bool b := by
          unfold intBin at hv
          split at hv <;> first
            | (cases hv; exact .inl ⟨_, _, rfl⟩)
            | (cases hv; exact .inr ⟨_, rfl⟩)
            | (cases hv; done)
            | (cases he : eqI n 0 <;> rw [he] at hv <;> cases hv; exact .inl ⟨_, _, rfl⟩)
        rcases hc with ⟨k2, n2, rfl⟩ | ⟨b, rfl⟩
        · exact .same hr (key _ eqGuard_num (run_intBin hv)) (.int _ _)
        · exact .same hr (key _ eqGuard_num (run_intBin hv)) (.bool _)
      · cases hv
    · rename_i m n ha hb
      rw [ha] at hx; rw [hb] at hy
      rw [hx.string_inv, hy.string_inv] at key
      have hc : (∃ b, v = .string b) ∨ ∃ b, v = .bool b := by
        unfold strBin at hv
        split at hv <;> first
          | (cases hv; exact .inr ⟨_, rfl⟩)
          | (cases hv; done)
          | skip
        cases he : Nat.ble (m.data.toList.length + n.data.toList.length) 1000000000 <;> rw [he] at hv <;> cases hv
        exact .inl ⟨_, rfl⟩
      rcases hc with ⟨b, rfl⟩ | ⟨b, rfl⟩
      · exact .same hr (key _ eqGuard_str (run_strBin hv)) (.string _)
      · exact .same hr (key _ eqGuard_str (run_strBin hv)) (.bool _)
    · cases hg : (eqShape (opv tm x) && eqShape (opv tm y) && guardOk P t x y (opv tm x) (opv tm y)) with
      | false => rw [hg] at hv; cases hv
      | true =>
        rw [hg] at hv
        simp only [cond_true] at hv
        simp only [Bool.and_eq_true] at hg
        split at hv
        · rename_i r he
          cases hv
          have := eqV_sim hr _ _ _ _ _ _ _ he hx hy Op.maxDepth (by decide)
          refine .same hr (key (.bool r) (eqGuard_ok hx hy hg.1.1 hg.1.2 hg.2) ?_) (.bool _)
          rw [binOp_eql hx hg.1.1]; simp [Op.equal, this]
        · cases hv
    · cases hg : (eqShape (opv tm x) && eqShape (opv tm y) && guardOk P t x y (opv tm x) (opv tm y)) with
      | false => rw [hg] at hv; cases hv
      | true =>
        rw [hg] at hv
        simp only [cond_true] at hv
        simp only [Bool.and_eq_true] at hg
        split at hv
        · rename_i r he
          cases hv
          have := eqV_sim hr _ _ _ _ _ _ _ he hx hy Op.maxDepth (by decide)
          refine .same hr (key (.bool (!r)) (eqGuard_ok hx hy hg.1.1 hg.1.2 hg.2) ?_) (.bool _)
          rw [binOp_neq hx hg.1.1]; simp [Op.equal, this]
        · cases hv
    · cases hv
  · cases h

theorem ok_makeMap {o : Oper} {t : TypeId} {x : Option Operand} {r : Res} (ho : o.op = .makeMap t x) (h : evalOp P ro tm o.op s = some r) : OpOk P B ro tm o s r := by
  intro ρ w ac hr ht hro hfr
  rw [ho] at h; simp only [evalOp, newObjK_eq] at h
  have fin : ∀ {w' : World}, w' = w.alloc (.map #[] 0) → (∀ ν, s.next ≤ ν → ν < s.next + 1 → ρ ν = none) → (execOp ac.eval o).run P w = .ok (.value (.map (some w.heap.size))) w' →
      ResR P B ro ρ s w ((execOp ac.eval o).run P w) (.val (.map (some s.next)) ⟨s.heap.set s.next (.map [] 0), s.next + 1⟩) := by
    intro w' hw hf he
    subst hw
    have hf : ρ s.next = none := hf _ (Nat.le_refl _) (by simp)
    refine ⟨ρ.upd s.next ⟨w.heap.size, 0, 0, 0, 0, false⟩, _, _, .inl he, Step.new hr hro hf rfl (O := .map #[] 0) rfl rfl rfl rfl ⟨#[], by show (w.heap.push _)[w.heap.size]? = _; simp, .nil⟩, .map (Ren.upd_same _ _ _)⟩
  split at h
  · cases h
    refine fin rfl hfr ?_
    simp [execOp, ho, Instr.makeMap]
  · rename_i y
    split at h
    · rename_i k e kd n hu hn
      cases h
      have hy := opv_rel ht y
      rw [hn] at hy
      refine fin rfl hfr ?_
      simp [execOp, ho, Instr.makeMap, run_und hu, asInt, asIntOf, hy.int_inv]
    · cases h

theorem ok_fieldAddr {o : Oper} {t : TypeId} {x : Operand} {f : Nat} {r : Res} (ho : o.op = .fieldAddr t x f) (h : evalOp P ro tm o.op s = some r) : OpOk P B ro tm o s r := by
  intro ρ w ac hr ht hro hfr
  rw [ho] at h; simp only [evalOp] at h
  have hx := opv_rel ht x
  split at h
  · rename_i fs a hu ha
    rw [ha] at hx
    obtain ⟨hsp, i, hi, he⟩ := hx.ptr_inv
    split at h
    · rename_i fd hfd
      rw [nth_eq] at hfd
      have hfd' : fs[f]? = some fd := by simpa using hfd
      split at h
      · rename_i n hn
        cases h
        obtain ⟨ab, ao, asp⟩ := a
        simp only at hsp hi
        subst hsp
        have hadd : addA ⟨ab, ao, none⟩ fd.offset = ⟨ab, ao + fd.offset, none⟩ := by
          unfold addA; split
          · rename_i e; rw [e]; rfl
          · rename_i e; rw [e]
        refine .same hr (v' := .pointer (some ⟨i.b, i.r + ao + fd.offset, none⟩)) ?_ (by rw [hadd, Nat.add_assoc]; exact .ptr hi)
        simp [execOp, ho, Instr.fieldAt, run_und hu, hfd', he, Instr.sureAddr, fieldPlace, run_sizeOf' hn, add_none]
      · cases h
    · cases h
  · cases h

theorem ok_field {o : Oper} {t : TypeId} {x : Operand} {f : Nat} {r : Res} (ho : o.op = .field t x f) (h : evalOp P ro tm o.op s = some r) : OpOk P B ro tm o s r := by
  intro ρ w ac hr ht hro hfr
  rw [ho] at h; simp only [evalOp] at h
  have hx := opv_rel ht x
  split at h
  · rename_i fs cs hu ha
    rw [ha] at hx
    obtain ⟨cs', he, hv⟩ := hx.agg_inv
    split at h
    · rename_i fd hfd
      rw [nth_eq] at hfd
      have hfd' : fs[f]? = some fd := by simpa using hfd
      split at h
      · rename_i v hp
        cases h
        obtain ⟨v', r1, r2⟩ := part_sim' (w := w) hv hp
        refine .same hr (v' := v') ?_ r2
        simp [execOp, ho, Instr.field, run_und hu, hfd', he, asAgg, r1]
      · cases h
    · cases h
  · cases h

theorem addA_none (ab ao n : Nat) : addA ⟨ab, ao, none⟩ n = ⟨ab, ao + n, none⟩ := by
  unfold addA; split
  · rfl
  · rfl

theorem ok_indexAddr {o : Oper} {t : TypeId} {x y : Operand} {r : Res} (ho : o.op = .indexAddr t x y) (h : evalOp P ro tm o.op s = some r) : OpOk P B ro tm o s r := by
  intro ρ w ac hr ht hro hfr
  rw [ho] at h; simp only [evalOp] at h
  have hx := opv_rel ht x
  have hy := opv_rel ht y
  split at h
  · rename_i len elem a k i hu ha hi
    rw [ha] at hx; rw [hi] at hy
    obtain ⟨hsp, j, hj, he⟩ := hx.ptr_inv
    split at h
    · rename_i n hn
      cases hb : Nat.blt i len with
      | false => rw [hb] at h; cases h
      | true =>
        rw [hb] at h; cases h
        have hlt : i < len := by simpa [Nat.blt_eq] using hb
        obtain ⟨ab, ao, asp⟩ := a
        simp only at hsp hj
        subst hsp
        refine .same hr (v' := .pointer (some ⟨j.b, j.r + ao + i * n, none⟩)) ?_ (by rw [addA_none, Nat.add_assoc]; exact .ptr hj)
        have h2 : (0 : Int) ≤ Int.ofNat i ∧ Int.ofNat i < (len : Int) := ⟨by simp, by simpa using hlt⟩
        simp only [execOp, ho, Instr.indexAt, Sem.run_bind, hy.int_inv, asIntOf, Sem.run_pure, Result.andThen_ok, run_und hu, he, Instr.sureAddr, h2, and_self, if_true, run_sizeOf' hn, add_none]
        rfl
    · cases h
  · rename_i elem a len c k i hu ha hi
    rw [ha] at hx; rw [hi] at hy
    obtain ⟨hsp, j, o', c', hj, he, hs⟩ := hx.slc_inv
    split at h
    · rename_i n hn
      cases hb : Nat.blt i len with
      | false => rw [hb] at h; cases h
      | true =>
        rw [hb] at h; cases h
        have hlt : i < len := by simpa [Nat.blt_eq] using hb
        have ho' : o' = j.r + a.off := by rcases hs with h1 | h1 | h1 <;> omega
        obtain ⟨ab, ao, asp⟩ := a
        simp only at hsp hj ho'
        subst hsp; subst ho'
        refine .same hr (v' := .pointer (some ⟨j.b, j.r + ao + i * n, none⟩)) ?_ (by rw [addA_none, Nat.add_assoc]; exact .ptr hj)
        have h2 : (0 : Int) ≤ Int.ofNat i ∧ Int.ofNat i < (len : Int) := ⟨by simp, by simpa using hlt⟩
        simp only [execOp, ho, Instr.indexAt, Sem.run_bind, hy.int_inv, asIntOf, Sem.run_pure, Result.andThen_ok, run_und hu, he, h2, and_self, if_true, run_sizeOf' hn, add_none]
        rfl
    · cases h
  · cases h

theorem ok_index {o : Oper} {t : TypeId} {x y : Operand} {r : Res} (ho : o.op = .index t x y) (h : evalOp P ro tm o.op s = some r) : OpOk P B ro tm o s r := by
  intro ρ w ac hr ht hro hfr
  rw [ho] at h; simp only [evalOp] at h
  have hx := opv_rel ht x
  have hy := opv_rel ht y
  split at h
  · rename_i len elem cs k i hu ha hi
    rw [ha] at hx; rw [hi] at hy
    obtain ⟨cs', he, hv⟩ := hx.agg_inv
    cases hb : Nat.blt i len with
    | false => rw [hb] at h; cases h
    | true =>
      rw [hb] at h
      simp only [cond_true] at h
      split at h
      · rename_i n hn
        split at h
        · rename_i v hp
          cases h
          have hlt : i < len := by simpa [Nat.blt_eq] using hb
          obtain ⟨v', r1, r2⟩ := part_sim' (w := w) hv hp
          refine .same hr (v' := v') ?_ r2
          have h2 : (0 : Int) ≤ Int.ofNat i ∧ Int.ofNat i < (len : Int) := ⟨by simp, by simpa using hlt⟩
          have h3 : (Int.ofNat i).toNat = i := rfl
          simp only [execOp, ho, Instr.index, Sem.run_bind, hy.int_inv, asIntOf, Sem.run_pure, Result.andThen_ok, run_und hu, he, h2, and_self, if_true, run_sizeOf' hn, h3, r1]
        · cases h
      · cases h
  · rename_i b k i hu ha hi
    rw [ha] at hx; rw [hi] at hy
    split at h
    · rename_i c hc
      cases h
      rw [nth_eq] at hc
      refine .same hr (v' := .int .u8 (.ofNat c.toNat)) ?_ (.int _ _)
      have h2 : (0 : Int) ≤ Int.ofNat i := by simp
      have h3 : (Int.ofNat i).toNat = i := rfl
      have hlt : i < b.size := by
        have := (List.getElem?_eq_some_iff.1 hc).1
        rw [Array.length_toList] at this; exact this
      have h4 : b[i]? = some c := by
        have e1 : b[i]? = some b[i] := getElem?_pos b i hlt
        rw [e1]
        have e2 : b.data.toList[i]? = some b[i] := by
          rw [Array.getElem?_toList, Array.getElem?_eq_getElem (by exact hlt)]; rfl
        rw [e2] at hc; exact hc
      simp only [execOp, ho, Instr.index, Sem.run_bind, hy.int_inv, asIntOf, Sem.run_pure, Result.andThen_ok, run_und hu, hx.string_inv, h2, if_true, h3, h4]
      rfl
    · cases h
  · cases h

theorem ok_typeAssert {o : Oper} {x : Operand} {xt t : TypeId} {ok : Bool} {r : Res} (ho : o.op = .typeAssert x xt t ok) (h : evalOp P ro tm o.op s = some r) : OpOk P B ro tm o s r := by
  intro ρ w ac hr ht hro hfr
  rw [ho] at h; simp only [evalOp] at h
  have hx := opv_rel ht x
  have tup : ∀ {v v' : Value} (b : Bool), VR ρ v v' → VR ρ (.tuple #[v, .bool b]) (.tuple #[v', .bool b]) := fun b hv => VR.tuple_of (.cons hv (.cons (.bool b) .nil))
  split at h
  · cases h
  · rename_i u tx v hu hne ha
    rw [ha] at hx
    obtain ⟨v', he, hv⟩ := hx.iface_inv
    cases hb : Nat.beq tx t with
    | true =>
      rw [hb] at h; cases h
      have : tx = t := Nat.eq_of_beq_eq_true hb
      subst this
      cases ok with
      | true =>
        refine .same hr (v' := .tuple #[v', .bool true]) ?_ (tup true hv)
        simp only [execOp, ho, Instr.typeAssert, Sem.run_bind, run_und ‹_›, Result.andThen_ok, he]
        cases u <;> first | exact absurd rfl (hu _) | simp
      | false =>
        refine .same hr (v' := v') ?_ hv
        simp only [execOp, ho, Instr.typeAssert, Sem.run_bind, run_und ‹_›, Result.andThen_ok, he]
        cases u <;> first | exact absurd rfl (hu _) | simp
    | false =>
      rw [hb] at h
      have hne2 : ¬ tx = t := fun e => by rw [e] at hb; simp at hb
      cases ok with
      | false => cases h
      | true =>
        simp only [cond_false, cond_true] at h
        split at h
        · rename_i z hz
          cases h
          obtain ⟨z1, z2⟩ := zeroOf_some hz
          refine .same hr (v' := .tuple #[z, .bool false]) ?_ (tup false (z2 ρ))
          simp only [execOp, ho, Instr.typeAssert, Sem.run_bind, run_und ‹_›, Result.andThen_ok, he]
          cases u <;> first | exact absurd rfl (hu _) | simp [hne2, z1]
        · cases h
  · rename_i u hu hne ha
    rw [ha] at hx
    cases ok with
    | false => cases h
    | true =>
      simp only [cond_true] at h
      split at h
      · rename_i z hz
        cases h
        obtain ⟨z1, z2⟩ := zeroOf_some hz
        refine .same hr (v' := .tuple #[z, .bool false]) ?_ (tup false (z2 ρ))
        simp only [execOp, ho, Instr.typeAssert, Sem.run_bind, run_und ‹_›, Result.andThen_ok, hx.nilIface_inv]
        cases u <;> first | exact absurd rfl (hu _) | simp [z1]
      · cases h
  · cases h

theorem ok_panic {o : Oper} {x : Operand} {r : Res} (ho : o.op = .panic x) (h : evalOp P ro tm o.op s = some r) : OpOk P B ro tm o s r := by
  intro ρ w ac hr ht hro hfr
  rw [ho] at h; simp only [evalOp] at h
  have hx := opv_rel ht x
  split at h
  · rename_i t v ha
    cases h
    rw [ha] at hx
    obtain ⟨v', he, hv⟩ := hx.iface_inv
    exact ⟨rfl, .iface t v', by simp [execOp, ho, Instr.panic, he], .iface t hv⟩
  · cases h

theorem ok_defer {o : Oper} {c : Call} {r : Res} (ho : o.op = .defer c) (h : evalOp P ro tm o.op s = some r) : OpOk P B ro tm o s r := by
  intro ρ w ac hr ht hro hfr
  rw [ho] at h; simp only [evalOp] at h
  split at h
  · rename_i f hf
    have hx := opv_rel ht f
    split at h
    · rename_i fn fi ca ha
      cases h
      rw [ha] at hx
      obtain ⟨f', c', he, h1, h2⟩ := hx.func_inv
      refine ⟨rfl, { target := .fn fn c', args := f' ++ c.args.map ac.eval }, ?_, ⟨fn, ca, c', rfl, rfl, h2⟩, ?_⟩
      · simp [execOp, ho, resolve, hf, he, Deferred.ofValue]
      · simpa using h1.append (vrs_ops ht c.args.toList)
    · cases h
  · cases h

theorem ok_callValue {o : Oper} {c : Call} {f : Operand} {r : Res} (ho : o.op = .call c) (hc : c.callee = .value f) (h : evalOp P ro tm o.op s = some r) : OpOk P B ro tm o s r := by
  intro ρ w ac hr ht hro hfr
  rw [ho] at h; simp only [evalOp, hc] at h
  have hx := opv_rel ht f
  split at h
  · rename_i g args ha
    cases h
    unfold callTarget at ha
    split at ha
    · rename_i g' fi ca hf
      cases ha
      rw [hf] at hx
      obtain ⟨f', c', he, h1, h2⟩ := hx.func_inv
      refine ⟨rfl, f' ++ c.args.map ac.eval ++ c', ?_, ?_⟩
      · simp [execOp, ho, resolve, hc, he, Deferred.ofValue, invoke]
      · have := h1.append ((vrs_ops ht c.args.toList).append h2)
        simpa using this
    · cases ha
  · cases h

end
end Go.Ab
