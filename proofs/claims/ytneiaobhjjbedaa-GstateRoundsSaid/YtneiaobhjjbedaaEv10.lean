/- A part of the proof that what the evaluator says of a piece of code, the model does: no condition but those that each theorem states. -/
import Derived.Test.YtneiaobhjjbedaaEv9
namespace Go.Ab

section
variable {P : Program} {B ro : Nat} {ρ : Ren} {s : St} {w : World} {tm : T Value} {ac : Act}

/-! ### Maps -/

theorem run_getObj_map {r : Nat} {es : Array MapEntry} {c : Nat} (h : w.heap[r]? = some (.map es c)) : (getObj r).run P w = .ok (.map es c) w := by
  simp [getObj, Sem.run, h]
theorem run_getObj_siter {r : Nat} {b : ByteArray} {c : Nat} (h : w.heap[r]? = some (.stringIter b c)) : (getObj r).run P w = .ok (.stringIter b c) w := by
  simp [getObj, Sem.run, h]
theorem run_getObj_miter {r : Nat} {m : Option Nat} {a c : Nat} {l : Array Nat} (h : w.heap[r]? = some (.mapIter m a l c)) : (getObj r).run P w = .ok (.mapIter m a l c) w := by
  simp [getObj, Sem.run, h]

def Obj.noRow : Obj → Bool | .cells .. => false | _ => true

theorem run_setObj {r : Nat} {o o' : Obj} (h : w.heap[r]? = some o) (hn : Obj.noRow o = true) : (setObj r o').run P w = .ok () { w with heap := w.heap.setIfInBounds r o' } := by
  simp only [setObj, Sem.run, h]
  cases o <;> first | rfl | (simp [Obj.noRow] at hn)

theorem mapOf_some {ν : Nat} {es : List MapEntry} {c : Nat} (h : mapOf s ν = some (es, c)) : s.heap.get ν = some (.map es c) := by
  unfold mapOf at h
  split at h
  · rename_i e c' he; cases h; exact he
  · cases h

theorem map_obj (hr : Rel B ro ρ s.heap.get w) {ν : Nat} {es : List MapEntry} {c : Nat} {i : RI} (h : mapOf s ν = some (es, c)) (hi : ρ ν = some i) :
    ∃ es', w.heap[i.b]? = some (.map es' c) ∧ L2 (EntR ρ) es es'.toList := hr.obj ν i _ hi (mapOf_some h)

theorem run_checkKey {e : Bool} {n : Nat} {t : TypeId} {kd : TypeDesc} {v : Value} (h : P.underlying t = some kd) (hb : basicKey kd = true) : (Instr.checkKey e (n + 1) t v).run P w = .ok () w := by
  simp only [Instr.checkKey, Sem.run_bind, run_und h, Result.andThen_ok]
  cases kd <;> first | rfl | (simp [basicKey] at hb)

theorem sameKey_sim {kd : TypeDesc} {a b a' b' : Value} {r : Bool} (ha : VR ρ a a') (hb : VR ρ b b') (h : sameKey kd a b = some r) : Instr.sameNow kd a' b' = some r := by
  unfold sameKey at h
  split at h
  · rw [ha.int_inv, hb.int_inv]
    split at h
    · rename_i hk; cases h; simp only [Instr.sameNow, hk, if_true, eqI_eq]
    · cases h
  · cases h; rw [ha.string_inv, hb.string_inv]; simp only [Instr.sameNow, beqBytes_eq, beq_toListBytes, ByteArray.toList_eq]
  · cases h; rw [ha.bool_inv, hb.bool_inv]; rfl
  · cases h

theorem sameNow_bits {kd : TypeDesc} {a b : Value} {n : Nat} (h : Instr.sameNow kd a b = some true) : Instr.sameBits (n + 1) b a = true := by
  unfold Instr.sameNow at h
  split at h
  · split at h
    · rename_i hk; subst hk
      have := Option.some.inj h
      have : _ = _ := eq_of_beq this
      subst this
      simp [Instr.sameBits]
    · cases h
  · have := Option.some.inj h
    rw [beq_toListBytes] at this
    have e := eq_of_beq this
    simp only [Instr.sameBits]
    rw [beq_toListBytes, e]; simp
  · have := Option.some.inj h
    have e := eq_of_beq this
    subst e; simp [Instr.sameBits]
  · cases h

inductive FindR (ρ : Ren) : Option (Nat × Value) → Option (Nat × Value) → Prop
  | none : FindR ρ none none
  | some {i : Nat} {v v' : Value} (h : VR ρ v v') : FindR ρ (some (i, v)) (some (i, v'))

theorem findK_sim {kd : TypeDesc} {k k' : Value} (hk : VR ρ k k') : ∀ (es : List MapEntry) (es' : List MapEntry) (i : Nat) (r : Option (Nat × Value)), L2 (EntR ρ) es es' → findK kd k es i = some r →
    ∃ r', Instr.findNow kd k' es' i = some r' ∧ FindR ρ r r' ∧ ∀ j v, r = some (j, v) → i ≤ j ∧ ∃ e, es'[j - i]? = some e ∧ Instr.sameNow kd k' e.key = some true
  | [], es', i, r, he, h => by
    rw [L2.nil_left he]
    simp only [findK] at h; cases h
    exact ⟨none, rfl, .none, fun j v e => by cases e⟩
  | e :: es, es', i, r, he, h => by
    obtain ⟨e', m, rfl, ⟨h1, h2, h3⟩, ht⟩ := L2.cons_left he
    simp only [findK] at h
    split at h
    · rename_i hs
      cases h
      have := sameKey_sim hk h1 hs
      exact ⟨some (i, e'.val), by simp only [Instr.findNow, this], .some h2, fun j v ej => by cases ej; exact ⟨Nat.le_refl _, e', by simp, this⟩⟩
    · rename_i hs
      have := sameKey_sim hk h1 hs
      obtain ⟨r', a, b, c⟩ := findK_sim hk es m (i + 1) r ht h
      refine ⟨r', by simp only [Instr.findNow, this, a], b, fun j v ej => ?_⟩
      obtain ⟨c1, e2, c2, c3⟩ := c j v ej
      exact ⟨by omega, e2, by rw [show j - i = (j - (i + 1)) + 1 by omega]; simpa using c2, c3⟩
    · cases h

theorem run_findKey {key : TypeId} {kd : TypeDesc} {k' : Value} {es' : List MapEntry} {r' : Option (Nat × Value)} (hu : P.underlying key = some kd) (h : Instr.findNow kd k' es' 0 = some r') :
    (Instr.findKey key k' es').run P w = .ok r' w := by
  simp only [Instr.findKey, Sem.run_bind, run_und hu, Result.andThen_ok, h, Sem.run_pure]

theorem ok_lookup {o : Oper} {t : TypeId} {x k : Operand} {ok : Bool} {r : Res} (ho : o.op = .lookup t x k ok) (h : evalOp P ro tm o.op s = some r) : OpOk P B ro tm o s r := by
  intro ρ w ac hr ht hro hfr
  rw [ho] at h; simp only [evalOp] at h
  have hx := opv_rel ht x
  have hk := opv_rel ht k
  have hex : (execOp ac.eval o).run P w = ((Instr.lookup t (ac.eval x) (ac.eval k) ok).run P w).andThen fun v w' => .ok (.value v) w' := by simp [execOp, ho]
  rw [hex]
  split at h
  · rename_i v hv
    cases h
    unfold lookupOf at hv
    split at hv
    · rename_i key elem hu
      split at hv
      · cases hv
      · rename_i kd hkd
        cases hb : basicKey kd with
        | false => rw [hb] at hv; cases hv
        | true =>
          rw [hb] at hv
          simp only [cond_true] at hv
          have main : ∀ (es : List MapEntry) (es' : Array MapEntry), L2 (EntR ρ) es es'.toList →
              (match findK kd (opv tm k) es 0 with
                | none => none
                | some (some (_, v)) => some (bif ok then .tuple #[v, .bool true] else v)
                | some none => match zeroOf P elem with
                  | some z => some (bif ok then .tuple #[z, .bool false] else z)
                  | none => none) = some v →
              (Instr.lookup t (ac.eval x) (ac.eval k) ok).run P w = ((do
                Instr.checkKey es'.isEmpty 10000 key (ac.eval k)
                let (v, ok') ← match ← Instr.findKey key (ac.eval k) es'.toList with
                  | some (_, v) => pure (v, true)
                  | none => pure (← zeroValue elem, false)
                pure (if ok then .tuple #[v, .bool ok'] else v)) : Sem Value).run P w →
              ∃ v', (Instr.lookup t (ac.eval x) (ac.eval k) ok).run P w = .ok v' w ∧ VR ρ v v' := by
            intro es es' he hm hL
            rw [hL]
            have tup : ∀ {v v' : Value} (b : Bool), VR ρ v v' → VR ρ (.tuple #[v, .bool b]) (.tuple #[v', .bool b]) := fun b hv => VR.tuple_of (.cons hv (.cons (.bool b) .nil))
            split at hm
            · cases hm
            · rename_i j u hf
              cases hm
              obtain ⟨r', f1, f2, _⟩ := findK_sim hk es es'.toList 0 _ he hf
              cases f2 with
              | some hv2 =>
                rename_i u'
                refine ⟨if ok then .tuple #[u', .bool true] else u', ?_, ?_⟩
                · simp only [Sem.run_bind, Result.andThen_ok, run_checkKey hkd hb, run_findKey hkd f1, Sem.run_pure]
                · cases ok
                  · exact hv2
                  · exact tup true hv2
            · rename_i hf
              obtain ⟨r', f1, f2, _⟩ := findK_sim hk es es'.toList 0 _ he hf
              cases f2 with
              | none =>
                split at hm
                · rename_i z hz
                  cases hm
                  obtain ⟨z1, z2⟩ := zeroOf_some hz
                  refine ⟨if ok then .tuple #[z, .bool false] else z, ?_, ?_⟩
                  · simp only [Sem.run_bind, Result.andThen_ok, run_checkKey hkd hb, run_findKey hkd f1, z1, Sem.run_pure]
                  · cases ok
                    · exact z2 ρ
                    · exact tup false (z2 ρ)
                · cases hm
          split at hv
          · cases hv
          · rename_i es hes
            split at hes
            · rename_i ha
              cases hes
              rw [ha] at hx
              obtain ⟨v', h1, h2⟩ := main [] #[] .nil hv (by rw [hx.mapNil_inv]; simp only [Instr.lookup, Sem.run_bind, run_und hu, Result.andThen_ok, Sem.run_pure]; rfl)
              exact .same hr (by rw [h1]; rfl) h2
            · rename_i rr ha
              rw [ha] at hx
              obtain ⟨i, hi, he⟩ := hx.map_inv
              split at hes
              · rename_i es0 c hm
                cases hes
                obtain ⟨es', m1, m2⟩ := map_obj hr hm hi
                obtain ⟨v', h1, h2⟩ := main _ es' m2 hv (by rw [he]; simp only [Instr.lookup, Sem.run_bind, run_und hu, Result.andThen_ok, Sem.run_pure, run_getObj_map m1]; rfl)
                exact .same hr (by rw [h1]; rfl) h2
              · cases hes
            · cases hes
    · cases hv
  · cases h

theorem setAt_get {α : Type} (f : α → α) : ∀ (l : List α) (i j : Nat), (setAt f l i)[j]? = if j = i then (l[j]?).map f else l[j]?
  | [], i, j => by simp [setAt]
  | a :: l, 0, j => by cases j <;> simp [setAt]
  | a :: l, i + 1, 0 => by simp [setAt]
  | a :: l, i + 1, j + 1 => by simp [setAt, setAt_get f l i j]

theorem setAt_length {α : Type} (f : α → α) : ∀ (l : List α) (i : Nat), (setAt f l i).length = l.length
  | [], i => by simp [setAt]
  | a :: l, 0 => by simp [setAt]
  | a :: l, i + 1 => by simp [setAt, setAt_length f l i]

theorem ents_set {es : List MapEntry} {es' : Array MapEntry} (he : L2 (EntR ρ) es es'.toList) {k k' v v' : Value} (hk : VR ρ k k') (hv : VR ρ v v') (i : Nat) :
    L2 (EntR ρ) (setAt (fun e => { e with key := k, val := v }) es i) (es'.modify i fun e => { e with key := k', val := v' }).toList := by
  refine L2.of_get (by rw [setAt_length, he.length]; simp) fun j a b ha hb => ?_
  rw [setAt_get] at ha
  rw [Array.getElem?_toList, Array.getElem?_modify] at hb
  by_cases hj : j = i
  · subst hj
    rw [if_pos rfl] at ha hb
    cases e1 : es[j]? with
    | none => rw [e1] at ha; cases ha
    | some x =>
      rw [e1] at ha; cases ha
      obtain ⟨y, y1, y2⟩ := he.get e1
      rw [Array.getElem?_toList] at y1
      rw [y1] at hb; cases hb
      exact ⟨hk, hv, y2.2.2⟩
  · rw [if_neg hj] at ha
    rw [if_neg (fun e => hj e.symm)] at hb
    obtain ⟨y, y1, y2⟩ := he.get ha
    rw [Array.getElem?_toList] at y1
    rw [y1] at hb; cases hb
    exact y2

theorem mapUpd_sim (hr : Rel B ro ρ s.heap.get w) {t : TypeId} {m k v m' k' v' : Value} {s' : St} (h : mapUpd P ro s t m k v = some s') (hm : VR ρ m m') (hk : VR ρ k k') (hv : VR ρ v v') :
    ∃ w', (Instr.mapUpdate t m' k' v').run P w = .ok () w' ∧ Step B ro ρ s w ρ s' w' := by
  unfold mapUpd at h
  split at h
  · rename_i key elem r hu
    obtain ⟨i, hi, he⟩ := hm.map_inv
    rw [he]
    split at h
    · rename_i kd es c hkd hmp
      obtain ⟨es', m1, m2⟩ := map_obj hr hmp hi
      have hilt : i.b < w.heap.size := hr.inb _ _ hi
      cases hb : (basicKey kd && Nat.ble ro r) with
      | false => rw [hb] at h; cases h
      | true =>
        rw [hb] at h
        simp only [cond_true] at h
        simp only [Bool.and_eq_true, Nat.ble_eq] at hb
        have turn : ∀ (O : AObj) (es2 : Array MapEntry) (c2 : Nat), O = .map es2.toList c2 → False → True := fun _ _ _ _ h => h.elim
        have fin : ∀ (es1 : List MapEntry) (es2 : Array MapEntry) (c2 : Nat), L2 (EntR ρ) es1 es2.toList →
            Step B ro ρ s w ρ ⟨s.heap.set r (.map es1 c2), s.next⟩ { w with heap := w.heap.setIfInBounds i.b (.map es2 c2) } := by
          intro es1 es2 c2 hl
          refine Step.turn hr hb.2 hi (mapOf_some hmp) rfl (by simp) (fun q hq => ?_) rfl rfl rfl ⟨es2, ?_, hl⟩
          · simp only [Array.getElem?_setIfInBounds]; rw [if_neg (fun e => hq e.symm)]
          · simp [hilt]
        split at h
        · cases h
        · rename_i j u hf
          rw [setObjK_eq] at h; cases h
          obtain ⟨r', f1, f2, f3⟩ := findK_sim hk es es'.toList 0 _ m2 hf
          cases f2 with
          | some hv2 =>
            obtain ⟨_, e, e1, e2⟩ := f3 _ _ rfl
            rw [Nat.sub_zero, Array.getElem?_toList] at e1
            refine ⟨_, ?_, fin _ (es'.modify j fun e => { e with key := k', val := v' }) c (ents_set m2 hk hv j)⟩
            have hb2 : Instr.sameBits 10000 e.key k' = true := sameNow_bits (n := 9999) e2
            simp only [Instr.mapUpdate, Sem.run_bind, run_und hu, Result.andThen_ok, run_getObj_map m1, run_checkKey hkd hb.1, run_findKey hkd f1, e1, Option.map_some, Option.getD_some, Instr.keyThatStays, hb2, if_true, Sem.run_pure, run_setObj m1 rfl]
        · rename_i hf
          rw [setObjK_eq] at h; cases h
          obtain ⟨r', f1, f2, _⟩ := findK_sim hk es es'.toList 0 _ m2 hf
          cases f2 with
          | none =>
            refine ⟨_, ?_, fin _ (es'.push { key := k', val := v', born := c }) (c + 1) (by rw [Array.toList_push]; exact m2.append (.cons ⟨hk, hv, rfl⟩ .nil))⟩
            simp only [Instr.mapUpdate, Sem.run_bind, run_und hu, Result.andThen_ok, run_getObj_map m1, run_checkKey hkd hb.1, run_findKey hkd f1, run_setObj m1 rfl]
    · cases h
  · cases h

theorem ok_mapUpdate {o : Oper} {t : TypeId} {m k x : Operand} {r : Res} (ho : o.op = .mapUpdate t m k x ∨ o.op = .insert t m k x) (h : evalOp P ro tm o.op s = some r) : OpOk P B ro tm o s r := by
  intro ρ w ac hr ht hro hfr
  have h : (match mapUpd P ro s t (opv tm m) (opv tm k) (opv tm x) with | some s => some (Res.val und s) | none => none) = some r := by
    rcases ho with ho | ho <;> (rw [ho] at h; exact h)
  have hex : execOp ac.eval o = (do Instr.mapUpdate t (ac.eval m) (ac.eval k) (ac.eval x); pure .skip) := by
    rcases ho with ho | ho <;> simp only [execOp, ho]
  rw [hex]
  split at h
  · rename_i s' hs
    cases h
    obtain ⟨w', h1, h2⟩ := mapUpd_sim hr hs (opv_rel ht m) (opv_rel ht k) (opv_rel ht x)
    exact ⟨ρ, w', undef, .inr ⟨by simp [h1], rfl⟩, h2, VR.und ρ⟩
  · cases h

theorem eraseAt_eq {α : Type} : ∀ (l : List α) (i : Nat), eraseAt l i = l.eraseIdx i
  | [], i => by simp [eraseAt]
  | a :: l, 0 => by simp [eraseAt]
  | a :: l, i + 1 => by simp [eraseAt, eraseAt_eq l i]

theorem L2.eraseIdx {α β : Type} {R : α → β → Prop} {l : List α} {m : List β} (h : L2 R l m) (i : Nat) : L2 R (l.eraseIdx i) (m.eraseIdx i) := by
  induction h generalizing i with
  | nil => simp; exact .nil
  | cons h t ih => cases i with
    | zero => exact t
    | succ i => exact .cons h (ih i)

theorem set_same {r : Nat} {o : Obj} (h : w.heap[r]? = some o) : ({ w with heap := w.heap.setIfInBounds r o } : World).heap = w.heap := by
  apply Array.ext_getElem?
  intro k
  rw [Array.getElem?_setIfInBounds]
  split
  · rename_i e; subst e
    split
    · exact h.symm
    · rename_i hn; rw [Array.getElem?_eq_none (by omega)]
  · rfl

theorem mapDel_sim (hr : Rel B ro ρ s.heap.get w) {t : TypeId} {m k m' k' : Value} {s' : St} (h : mapDel P ro s t m k = some s') (hm : VR ρ m m') (hk : VR ρ k k') (ty : TypeId) (ts : Array TypeId) (hts : ts[0]? = some t) :
    ∃ w', (Builtin.delete_ ts ty #[m', k']).run P w = .ok (.tuple #[]) w' ∧ Step B ro ρ s w ρ s' w' := by
  unfold mapDel at h
  split at h
  · rename_i key elem r hu
    obtain ⟨i, hi, he⟩ := hm.map_inv
    rw [he]
    split at h
    · rename_i kd es c hkd hmp
      obtain ⟨es', m1, m2⟩ := map_obj hr hmp hi
      have hilt : i.b < w.heap.size := hr.inb _ _ hi
      cases hb : (basicKey kd && Nat.ble ro r) with
      | false => rw [hb] at h; cases h
      | true =>
        rw [hb] at h
        simp only [cond_true] at h
        simp only [Bool.and_eq_true, Nat.ble_eq] at hb
        split at h
        · cases h
        · rename_i j u hf
          rw [setObjK_eq] at h; cases h
          obtain ⟨r', f1, f2, f3⟩ := findK_sim hk es es'.toList 0 _ m2 hf
          cases f2 with
          | some hv2 =>
            refine ⟨{ w with heap := w.heap.setIfInBounds i.b (.map (es'.eraseIdxIfInBounds j) c) }, ?_, Step.turn hr hb.2 hi (mapOf_some hmp) rfl (by simp) (fun q hq => ?_) rfl rfl rfl ⟨es'.eraseIdxIfInBounds j, by simp [hilt], ?_⟩⟩
            · simp [Builtin.delete_, hts, run_und hu, run_getObj_map m1, run_checkKey hkd hb.1, run_findKey hkd f1, run_setObj m1 rfl]
            · simp only [Array.getElem?_setIfInBounds]; rw [if_neg (fun e => hq e.symm)]
            · rw [eraseAt_eq]
              have : (es'.eraseIdxIfInBounds j).toList = es'.toList.eraseIdx j := by
                simp [Array.eraseIdxIfInBounds]
                split
                · simp
                · rename_i hn; rw [List.eraseIdx_of_length_le (by simpa using hn)]
              rw [this]; exact m2.eraseIdx j
        · rename_i hf
          cases h
          obtain ⟨r', f1, f2, _⟩ := findK_sim hk es es'.toList 0 _ m2 hf
          cases f2 with
          | none =>
            refine ⟨{ w with heap := w.heap.setIfInBounds i.b (.map es' c) }, ?_, Step.drew hr (set_same m1) rfl rfl rfl⟩
            simp [Builtin.delete_, hts, run_und hu, run_getObj_map m1, run_checkKey hkd hb.1, run_findKey hkd f1, run_setObj m1 rfl]
    · cases h
  · cases h

/-! ### Ranging -/

theorem ok_range {o : Oper} {t : TypeId} {x : Operand} {r : Res} (ho : o.op = .range t x) (h : evalOp P ro tm o.op s = some r) : OpOk P B ro tm o s r := by
  intro ρ w ac hr ht hro hfr
  rw [ho] at h; simp only [evalOp] at h
  have hx := opv_rel ht x
  have hex : (execOp ac.eval o).run P w = ((Instr.range t (ac.eval x)).run P w).andThen fun v w' => .ok (.value v) w' := by simp [execOp, ho]
  rw [hex]
  have fin : ∀ (O : AObj) (O' : Obj), (∀ ν, s.next ≤ ν → ν < s.next + 1 → ρ ν = none) → ObjR (ρ.upd s.next ⟨w.heap.size, 0, 0, 0, 0, false⟩) ⟨w.heap.size, 0, 0, 0, 0, false⟩ (w.alloc O') O →
      (Instr.range t (ac.eval x)).run P w = .ok (.pointer (some ⟨w.heap.size, 0, none⟩)) (w.alloc O') →
      ResR P B ro ρ s w (((Instr.range t (ac.eval x)).run P w).andThen fun v w' => .ok (.value v) w') (.val (.pointer (some ⟨s.next, 0, none⟩)) ⟨s.heap.set s.next O, s.next + 1⟩) := by
    intro O O' hf hO hrun
    have hf : ρ s.next = none := hf _ (Nat.le_refl _) (by simp)
    exact ⟨_, w.alloc O', _, .inl (by rw [hrun]; rfl), Step.new hr hro hf rfl (O := O') rfl rfl rfl rfl hO, .ptr (Ren.upd_same _ _ _)⟩
  have hnew : ∀ (O' : Obj), (w.alloc O').heap[w.heap.size]? = some O' := fun O' => by show (w.heap.push _)[w.heap.size]? = _; simp
  unfold rangeOf at h
  split at h
  · rename_i b hu ha
    rw [newObjK_eq] at h; cases h
    rw [ha] at hx
    exact fin _ (.stringIter b 0) hfr ⟨rfl, hnew _⟩ (by rw [hx.string_inv]; simp [Instr.range, run_und hu])
  · rename_i k e hu ha
    rw [newObjK_eq] at h; cases h
    rw [ha] at hx
    exact fin _ (.mapIter none 0 #[] 0) hfr ⟨rfl, none, hnew _, rfl⟩ (by rw [hx.mapNil_inv]; simp [Instr.range, run_und hu])
  · rename_i k e m hu ha
    rw [ha] at hx
    obtain ⟨i, hi, he⟩ := hx.map_inv
    split at h
    · rename_i es c hm
      rw [newObjK_eq] at h; cases h
      obtain ⟨es', m1, m2⟩ := map_obj hr hm hi
      have hf : ρ s.next = none := hfr _ (Nat.le_refl _) (by simp [Res.next])
      exact fin _ (.mapIter (some i.b) c #[] c) hfr ⟨rfl, some i.b, hnew _, i, (by rw [Ren.upd_ne]; exact hi; intro e; subst e; rw [hf] at hi; cases hi), rfl⟩ (by rw [he]; simp [Instr.range, run_und hu, run_getObj_map m1])
    · cases h
  · cases h

theorem memNat_eq : ∀ (l : List Nat) (n : Nat), memNat l n = l.contains n
  | [], n => rfl
  | a :: l, n => by
    simp only [memNat, memNat_eq l n, List.contains_cons]
    cases h : Nat.beq a n with
    | true => have := Nat.eq_of_beq_eq_true h; subst this; simp
    | false =>
      have : ¬ n = a := fun e => by subst e; simp at h
      simp [this]

theorem all_born {es : List MapEntry} {es' : List MapEntry} (he : L2 (EntR ρ) es es') (f : Nat → Bool) : (es.all fun e => f e.born) = es'.all fun e => f e.born := by
  induction he with
  | nil => rfl
  | cons h _ ih => simp only [List.all_cons, ih, h.2.2]

theorem filter_born {es : List MapEntry} {es' : List MapEntry} (he : L2 (EntR ρ) es es') (f : Nat → Bool) : L2 (EntR ρ) (es.filter fun e => f e.born) (es'.filter fun e => f e.born) := by
  induction he with
  | nil => exact .nil
  | cons h _ ih =>
    simp only [List.filter_cons, h.2.2]
    split
    · exact .cons h ih
    · exact ih

theorem ok_next {o : Oper} {x : Operand} {isS : Bool} {r : Res} (ho : o.op = .next x isS) (h : evalOp P ro tm o.op s = some r) : OpOk P B ro tm o s r := by
  intro ρ w ac hr ht hro hfr
  rw [ho] at h; simp only [evalOp] at h
  have hx := opv_rel ht x
  have hex : (execOp ac.eval o).run P w = ((Instr.next (ac.eval x) isS o.type).run P w).andThen fun v w' => .ok (.value v) w' := by simp [execOp, ho]
  rw [hex]
  unfold nextOf at h
  split at h
  · rename_i rr ha
    rw [ha] at hx
    obtain ⟨_, i, hi, he⟩ := hx.ptr_inv
    simp only at hi he
    have hilt : i.b < w.heap.size := hr.inb _ _ hi
    have tr : ∀ (O : AObj) (O' : Obj) (o0 : AObj) (o0' : Obj), ro ≤ rr → s.heap.get rr = some o0 → o0.alive = true → w.heap[i.b]? = some o0' → Obj.noRow o0' = true → ObjR ρ i { w with heap := w.heap.setIfInBounds i.b O' } O →
        Step B ro ρ s w ρ ⟨s.heap.set rr O, s.next⟩ { w with heap := w.heap.setIfInBounds i.b O' } := by
      intro O O' o0 o0' h1 h2 h3 h4 h5 h6
      refine Step.turn hr h1 hi h2 h3 (by simp) (fun q hq => ?_) rfl rfl rfl h6
      simp only [Array.getElem?_setIfInBounds]; rw [if_neg (fun e => hq e.symm)]
    have hset : ∀ O' : Obj, (w.heap.setIfInBounds i.b O')[i.b]? = some O' := fun O' => by simp [hilt]
    cases hro2 : Nat.ble ro rr with
    | false => rw [hro2] at h; cases h
    | true =>
    rw [hro2] at h
    simp only [cond_true] at h
    have hro2 : ro ≤ rr := by simpa using hro2
    split at h
    · rename_i b pos hs
      obtain ⟨h0, hw0⟩ : i.r = 0 ∧ w.heap[i.b]? = some (.stringIter b pos) := hr.obj _ _ _ hi hs
      rw [h0] at he
      have hl : b.data.toList.length = b.size := by rw [Array.length_toList]; rfl
      cases hb : Nat.blt pos b.data.toList.length with
      | false =>
        rw [hb] at h; cases h
        have : ¬ pos < b.size := by rw [← hl]; intro e; rw [Nat.blt_eq.mpr e] at hb; cases hb
        refine .same hr (v' := .tuple #[.bool false]) ?_ (VR.tuple_of (.cons (.bool _) .nil))
        simp [Instr.next, he, run_getObj_siter hw0, this]
      | true =>
        rw [hb] at h
        simp only [cond_true, setObjK_eq] at h
        cases h
        have : pos < b.size := by rw [← hl]; exact Nat.blt_eq.mp hb
        refine ⟨ρ, _, .tuple #[.bool true, goInt pos, .int .i32 (Utf8.decode b pos).1], .inl ?_, tr _ (.stringIter b (pos + (Utf8.decode b pos).2)) _ _ hro2 hs rfl hw0 rfl ⟨h0, hset _⟩, VR.tuple_of (.cons (.bool _) (.cons (.int _ _) (.cons (.int _ _) .nil)))⟩
        simp [Instr.next, he, run_getObj_siter hw0, this, run_setObj hw0 rfl]
    · rename_i a b c hs
      obtain ⟨h0, m', hw0, hm'⟩ : i.r = 0 ∧ ∃ m', w.heap[i.b]? = some (.mapIter m' a b.toArray c) ∧ m' = none := hr.obj _ _ _ hi hs
      subst hm'
      rw [h0] at he
      cases h
      refine .same hr (v' := .tuple #[.bool false]) ?_ (VR.tuple_of (.cons (.bool _) .nil))
      simp [Instr.next, he, run_getObj_miter hw0]
    · rename_i m since seen last hs
      obtain ⟨h0, m', hw0, j, hj, hm'⟩ : i.r = 0 ∧ ∃ m', w.heap[i.b]? = some (.mapIter m' since seen.toArray last) ∧ ∃ j, ρ m = some j ∧ m' = some j.b := hr.obj _ _ _ hi hs
      subst hm'
      rw [h0] at he
      split at h
      · cases h
      · rename_i es clock hmo
        obtain ⟨es', q1, q2⟩ := map_obj hr hmo hj
        have hall := all_born q2 (fun b => Nat.ble last b)
        have hfil := filter_born q2 (fun b => !memNat seen b)
        have hemp : es.isEmpty = es'.toList.isEmpty := by
          have := q2.length
          cases es <;> cases hh : es'.toList <;> simp_all
        cases hbad : (!seen.isEmpty && !es.isEmpty && es.all fun e => Nat.ble last e.born) with
        | true => rw [hbad] at h; cases h
        | false =>
          rw [hbad] at h
          simp only [cond_false] at h
          have hbad' : (!seen.toArray.isEmpty && !es'.isEmpty && es'.all (fun e => decide (e.born ≥ last))) = false := by
            have e1 : seen.toArray.isEmpty = seen.isEmpty := by simp
            have e2 : es'.isEmpty = es.isEmpty := by rw [hemp]; simp
            have e3 : es'.all (fun e => decide (e.born ≥ last)) = es.all fun e => Nat.ble last e.born := by
              rw [hall, ← Array.all_toList]
              congr 1
              funext e
              rw [Bool.eq_iff_iff]; simp
            rw [e1, e2, e3]; exact hbad
          have hleft : (es'.filter fun e => !seen.toArray.contains e.born).toList = es'.toList.filter fun e => !memNat seen e.born := by
            rw [Array.toList_filter]
            congr 1
            funext e
            rw [memNat_eq]; simp
          have hcomm : ∀ (cands : Array (Option MapEntry)) (k : Sem Value), k = k → True := fun _ _ _ => trivial
          split at h
          · rename_i hlf
            cases h
            rw [hlf] at hfil
            have hnil := L2.nil_left hfil
            rw [← hleft] at hnil
            have harr : (es'.filter fun e => !seen.toArray.contains e.born) = #[] := by
              apply Array.ext'; rw [hnil]
            refine .same hr (v' := .tuple #[.bool false]) ?_ (VR.tuple_of (.cons (.bool _) .nil))
            simp only [Instr.next, he, Sem.run_bind, run_getObj_miter hw0, Result.andThen_ok, run_getObj_map q1, hbad', Bool.false_eq_true, if_false, harr]
            simp [Question.forced, choose, Sem.run]
          · rename_i e hlf
            cases hborn : Nat.blt e.born since with
            | false => rw [hborn] at h; cases h
            | true =>
              rw [hborn] at h
              simp only [cond_true, setObjK_eq] at h
              cases h
              rw [hlf] at hfil
              obtain ⟨e', tl, htl, hee, htl2⟩ := L2.cons_left hfil
              have htl3 := L2.nil_left htl2
              subst htl3
              rw [← hleft] at htl
              have harr : (es'.filter fun e => !seen.toArray.contains e.born) = #[e'] := by
                apply Array.ext'; rw [htl]
              have hb2 : e'.born < since := by rw [← hee.2.2]; exact Nat.blt_eq.mp hborn
              refine ⟨ρ, _, .tuple #[.bool true, e'.key, e'.val], .inl ?_, tr _ (.mapIter (some j.b) since (seen.toArray.push e'.born) clock) _ _ hro2 hs rfl hw0 rfl ⟨h0, some j.b, ?_, j, hj, rfl⟩,
                VR.tuple_of (.cons (.bool _) (.cons hee.1 (.cons hee.2.1 .nil)))⟩
              · simp only [Instr.next, he, Sem.run_bind, run_getObj_miter hw0, Result.andThen_ok, run_getObj_map q1, hbad', Bool.false_eq_true, if_false, harr]
                have hn : ¬ (e'.born ≥ since) := by omega
                simp [Question.forced, choose, Sem.run, hb2, hn, run_setObj hw0 rfl]
              · show (w.heap.setIfInBounds i.b _)[i.b]? = _
                rw [hset, hee.2.2]
                congr 2
                simp
          · cases h
    · cases h
  · cases h

theorem lastOf_eq : ∀ (l : List Nat), lastOf l = l.getLast?
  | [] => rfl
  | [a] => rfl
  | a :: b :: l => by simp only [lastOf, lastOf_eq (b :: l)]; simp

theorem find_born {es : List MapEntry} {es' : List MapEntry} (he : L2 (EntR ρ) es es') (st : Nat) {e : MapEntry} (h : es.find? (fun e => Nat.beq e.born st) = some e) :
    ∃ e', es'.find? (fun e => e.born == st) = some e' ∧ EntR ρ e e' := by
  induction he with
  | nil => cases h
  | @cons a b l m hr _ ih =>
    simp only [List.find?_cons] at h ⊢
    have : (b.born == st) = Nat.beq a.born st := by rw [← hr.2.2]; rw [Bool.eq_iff_iff]; simp
    rw [this]
    cases hb : Nat.beq a.born st with
    | true => rw [hb] at h; simp only at h; cases h; exact ⟨b, rfl, hr⟩
    | false => rw [hb] at h; simp only at h; exact ih h

theorem ok_entry {o : Oper} {x : Operand} {r : Res} (ho : o.op = .entry x) (h : evalOp P ro tm o.op s = some r) : OpOk P B ro tm o s r := by
  intro ρ w ac hr ht hro hfr
  rw [ho] at h; simp only [evalOp] at h
  have hx := opv_rel ht x
  have hex : (execOp ac.eval o).run P w = ((Instr.entry (ac.eval x)).run P w).andThen fun v w' => .ok (.value v) w' := by simp [execOp, ho]
  rw [hex]
  split at h
  · rename_i v hv
    cases h
    unfold entryOf at hv
    split at hv
    · rename_i rr ha
      rw [ha] at hx
      obtain ⟨_, i, hi, he⟩ := hx.ptr_inv
      simp only at hi he
      split at hv
      · rename_i m since seen stepped hs
        obtain ⟨h0, m', hw0, j, hj, hm'⟩ : i.r = 0 ∧ ∃ m', w.heap[i.b]? = some (.mapIter m' since seen.toArray stepped) ∧ ∃ j, ρ m = some j ∧ m' = some j.b := hr.obj _ _ _ hi hs
        subst hm'
        rw [h0] at he
        split at hv
        · rename_i stamp es clock hl hmo
          obtain ⟨es', q1, q2⟩ := map_obj hr hmo hj
          cases hb : Nat.beq clock stepped with
          | false => rw [hb] at hv; cases hv
          | true =>
            rw [hb] at hv
            simp only [cond_true] at hv
            have hcl : clock = stepped := Nat.eq_of_beq_eq_true hb
            split at hv
            · rename_i e hf
              cases hv
              obtain ⟨e', f1, f2⟩ := find_born q2 stamp hf
              rw [lastOf_eq] at hl
              refine .same hr (v' := .tuple #[e'.key, e'.val]) ?_ (VR.tuple_of (.cons f2.1 (.cons f2.2.1 .nil)))
              have hb1 : seen.toArray.back? = some stamp := by simp [hl]
              have hf1 : es'.find? (fun e => e.born == stamp) = some e' := by rw [← Array.find?_toList]; exact f1
              subst hcl
              simp [Instr.entry, he, run_getObj_miter hw0, hl, run_getObj_map q1, hf1]
            · cases hv
        · cases hv
      · cases hv
    · cases hv
  · cases h

end
end Go.Ab
