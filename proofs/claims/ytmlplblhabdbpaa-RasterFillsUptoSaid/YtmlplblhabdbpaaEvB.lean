/- A part of the proof that what the evaluator says of a piece of code, the model does: no condition but those that each theorem states. -/
import Derived.Test.YtmlplblhabdbpaaEvA
import Derived.Orders
namespace Go.Ab

section
variable {P : Program} {B ro : Nat} {ρ : Ren} {s : St} {w : World} {tm : T Value} {ac : Act}

/-! ### Maps -/

theorem run_getObj_map {r : Nat} {es : Array MapEntry} {c : Nat} (h : w.heap[r]? = some (.map es c)) : (getObj r).run P w = .ok (.map es c) w := by
  simp [getObj, Sem.run, h]
theorem run_getObj_siter {r : Nat} {b : ByteArray} {c : Nat} (h : w.heap[r]? = some (.stringIter b c)) : (getObj r).run P w = .ok (.stringIter b c) w := by
  simp [getObj, Sem.run, h]
theorem run_getObj_miter {r : Nat} {m : Option Nat} {a c : Nat} {l : Array Nat} (h : w.heap[r]? = some (.mapIter m a l c)) : (getObj r).run P w = .ok (.mapIter m a l c) w := by
  simp [getObj, Sem.run, h]

def Obj.noRow : Obj → Bool | .cells .. => false | _ => true

theorem run_setObj {r : Nat} {o o' : Obj} (h : w.heap[r]? = some o) (hn : Obj.noRow o = true) : (setObj r o').run P w = .ok () { w with heap := w.heap.setIfInBounds r o' } := by
  simp only [setObj, Sem.run, h]
  cases o <;> first | rfl | (simp [Obj.noRow] at hn)

theorem mapOf_some {ν : Nat} {es : List MapEntry} {c : Nat} (h : mapOf s ν = some (es, c)) : s.heap.get ν = some (.map es c) := by
  unfold mapOf at h
  split at h
  · rename_i e c' he; cases h; exact he
  · cases h

theorem map_obj (hr : Rel B ro ρ s.heap.get w) {ν : Nat} {es : List MapEntry} {c : Nat} {i : RI} (h : mapOf s ν = some (es, c)) (hi : ρ ν = some i) :
    ∃ es', w.heap[i.b]? = some (.map es' c) ∧ L2 (EntR ρ) es es'.toList := hr.obj ν i _ hi (mapOf_some h)

theorem run_checkKey {e : Bool} {n : Nat} {t : TypeId} {kd : TypeDesc} {v : Value} (h : P.underlying t = some kd) (hb : basicKey kd = true) : (Instr.checkKey e (n + 1) t v).run P w = .ok () w := by
  simp only [Instr.checkKey, Sem.run_bind, run_und h, Result.andThen_ok]
  cases kd <;> first | rfl | (simp [basicKey] at hb)

theorem sameKey_sim {kd : TypeDesc} {a b a' b' : Value} {r : Bool} (ha : VR ρ a a') (hb : VR ρ b b') (h : sameKey kd a b = some r) : Instr.sameNow kd a' b' = some r := by
  unfold sameKey at h
  split at h
  · rw [ha.int_inv, hb.int_inv]
    split at h
    · rename_i hk; cases h; simp only [Instr.sameNow, hk, if_true, eqI_eq]
    · cases h
  · cases h; rw [ha.string_inv, hb.string_inv]; simp only [Instr.sameNow, beqBytes_eq, beq_toListBytes, ByteArray.toList_eq]
  · cases h; rw [ha.bool_inv, hb.bool_inv]; rfl
  · cases h

theorem sameNow_bits {kd : TypeDesc} {a b : Value} {n : Nat} (h : Instr.sameNow kd a b = some true) : Instr.sameBits (n + 1) b a = true := by
  unfold Instr.sameNow at h
  split at h
  · split at h
    · rename_i hk; subst hk
      have := Option.some.inj h
      have : _ = _ := eq_of_beq this
      subst this
      simp [Instr.sameBits]
    · cases h
  · have := Option.some.inj h
    rw [beq_toListBytes] at this
    have e := eq_of_beq this
    simp only [Instr.sameBits]
    rw [beq_toListBytes, e]; simp
  · have := Option.some.inj h
    have e := eq_of_beq this
    subst e; simp [Instr.sameBits]
  · cases h

inductive FindR (ρ : Ren) : Option (Nat × Value) → Option (Nat × Value) → Prop
  | none : FindR ρ none none
  | some {i : Nat} {v v' : Value} (h : VR ρ v v') : FindR ρ (some (i, v)) (some (i, v'))

theorem findK_sim {kd : TypeDesc} {k k' : Value} (hk : VR ρ k k') : ∀ (es : List MapEntry) (es' : List MapEntry) (i : Nat) (r : Option (Nat × Value)), L2 (EntR ρ) es es' → findK kd k es i = some r →
    ∃ r', Instr.findNow kd k' es' i = some r' ∧ FindR ρ r r' ∧ ∀ j v, r = some (j, v) → i ≤ j ∧ ∃ e, es'[j - i]? = some e ∧ Instr.sameNow kd k' e.key = some true
  | [], es', i, r, he, h => by
    rw [L2.nil_left he]
    simp only [findK] at h; cases h
    exact ⟨none, rfl, .none, fun j v e => by cases e⟩
  | e :: es, es', i, r, he, h => by
    obtain ⟨e', m, rfl, ⟨h1, h2, h3⟩, ht⟩ := L2.cons_left he
    simp only [findK] at h
    split at h
    · rename_i hs
      cases h
      have := sameKey_sim hk h1 hs
      exact ⟨some (i, e'.val), by simp only [Instr.findNow, this], .some h2, fun j v ej => by cases ej; exact ⟨Nat.le_refl _, e', by simp, this⟩⟩
    · rename_i hs
      have := sameKey_sim hk h1 hs
      obtain ⟨r', a, b, c⟩ := findK_sim hk es m (i + 1) r ht h
      refine ⟨r', by simp only [Instr.findNow, this, a], b, fun j v ej => ?_⟩
      obtain ⟨c1, e2, c2, c3⟩ := c j v ej
      exact ⟨by omega, e2, by rw [show j - i = (j - (i + 1)) + 1 by omega]; simpa using c2, c3⟩
    · cases h

theorem run_findKey {key : TypeId} {kd : TypeDesc} {k' : Value} {es' : List MapEntry} {r' : Option (Nat × Value)} (hu : P.underlying key = some kd) (h : Instr.findNow kd k' es' 0 = some r') :
    (Instr.findKey key k' es').run P w = .ok r' w := by
  simp only [Instr.findKey, Sem.run_bind, run_und hu, Result.andThen_ok, h, Sem.run_pure]

theorem ok_lookup {o : Oper} {t : TypeId} {x k : Operand} {ok : Bool} {r : Res} (ho : o.op = .lookup t x k ok) (h : evalOp P ro tm o.op s = some r) : OpOk P B ro tm o s r := by
  intro ρ w ac hr ht hro hfr
  rw [ho] at h; simp only [evalOp] at h
  have hx := opv_rel ht x
  have hk := opv_rel ht k
  have hex : (execOp ac.eval o).run P w = ((Instr.lookup t (ac.eval x) (ac.eval k) ok).run P w).andThen fun v w' => .ok (.value v) w' := by simp [execOp, ho]
  rw [hex]
  split at h
  · rename_i v hv
    cases h
    unfold lookupOf at hv
    split at hv
    · rename_i key elem hu
      split at hv
      · cases hv
      · rename_i kd hkd
        cases hb : basicKey kd with
        | false => rw [hb] at hv; cases hv
        | true =>
          rw [hb] at hv
          simp only [cond_true] at hv
          have main : ∀ (es : List MapEntry) (es' : Array MapEntry), L2 (EntR ρ) es es'.toList →
              (match findK kd (opv tm k) es 0 with
                | none => none
                | some (some (_, v)) => some (bif ok then .tuple #[v, .bool true] else v)
                | some none => match zeroOf P elem with
                  | some z => some (bif ok then .tuple #[z, .bool false] else z)
                  | none => none) = some v →
              (Instr.lookup t (ac.eval x) (ac.eval k) ok).run P w = ((do
                Instr.checkKey es'.isEmpty 10000 key (ac.eval k)
                let (v, ok') ← match ← Instr.findKey key (ac.eval k) es'.toList with
                  | some (_, v) => pure (v, true)
                  | none => pure (← zeroValue elem, false)
                pure (if ok then .tuple #[v, .bool ok'] else v)) : Sem Value).run P w →
              ∃ v', (Instr.lookup t (ac.eval x) (ac.eval k) ok).run P w = .ok v' w ∧ VR ρ v v' := by
            intro es es' he hm hL
            rw [hL]
            have tup : ∀ {v v' : Value} (b : Bool), VR ρ v v' → VR ρ (.tuple #[v, .bool b]) (.tuple #[v', .bool b]) := fun b hv => VR.tuple_of (.cons hv (.cons (.bool b) .nil))
            split at hm
            · cases hm
            · rename_i j u hf
              cases hm
              obtain ⟨r', f1, f2, _⟩ := findK_sim hk es es'.toList 0 _ he hf
              cases f2 with
              | some hv2 =>
                rename_i u'
                refine ⟨if ok then .tuple #[u', .bool true] else u', ?_, ?_⟩
                · simp only [Sem.run_bind, Result.andThen_ok, run_checkKey hkd hb, run_findKey hkd f1, Sem.run_pure]
                · cases ok
                  · exact hv2
                  · exact tup true hv2
            · rename_i hf
              obtain ⟨r', f1, f2, _⟩ := findK_sim hk es es'.toList 0 _ he hf
              cases f2 with
              | none =>
                split at hm
                · rename_i z hz
                  cases hm
                  obtain ⟨z1, z2⟩ := zeroOf_some hz
                  refine ⟨if ok then .tuple #[z, .bool false] else z, ?_, ?_⟩
                  · simp only [Sem.run_bind, Result.andThen_ok, run_checkKey hkd hb, run_findKey hkd f1, z1, Sem.run_pure]
                  · cases ok
                    · exact z2 ρ
                    · exact tup false (z2 ρ)
                · cases hm
          split at hv
          · cases hv
          · rename_i es hes
            split at hes
            · rename_i ha
              cases hes
              rw [ha] at hx
              obtain ⟨v', h1, h2⟩ := main [] #[] .nil hv (by rw [hx.mapNil_inv]; simp only [Instr.lookup, Sem.run_bind, run_und hu, Result.andThen_ok, Sem.run_pure]; rfl)
              exact .same hr (by rw [h1]; rfl) h2
            · rename_i rr ha
              rw [ha] at hx
              obtain ⟨i, hi, he⟩ := hx.map_inv
              split at hes
              · rename_i es0 c hm
                cases hes
                obtain ⟨es', m1, m2⟩ := map_obj hr hm hi
                obtain ⟨v', h1, h2⟩ := main _ es' m2 hv (by rw [he]; simp only [Instr.lookup, Sem.run_bind, run_und hu, Result.andThen_ok, Sem.run_pure, run_getObj_map m1]; rfl)
                exact .same hr (by rw [h1]; rfl) h2
              · cases hes
            · cases hes
    · cases hv
  · cases h

theorem setAt_get {α : Type} (f : α → α) : ∀ (l : List α) (i j : Nat), (setAt f l i)[j]? = if j = i then (l[j]?).map f else l[j]?
  | [], i, j => by simp [setAt]
  | a :: l, 0, j => by cases j <;> simp [setAt]
  | a :: l, i + 1, 0 => by simp [setAt]
  | a :: l, i + 1, j + 1 => by simp [setAt, setAt_get f l i j]

theorem setAt_length {α : Type} (f : α → α) : ∀ (l : List α) (i : Nat), (setAt f l i).length = l.length
  | [], i => by simp [setAt]
  | a :: l, 0 => by simp [setAt]
  | a :: l, i + 1 => by simp [setAt, setAt_length f l i]

theorem ents_set {es : List MapEntry} {es' : Array MapEntry} (he : L2 (EntR ρ) es es'.toList) {k k' v v' : Value} (hk : VR ρ k k') (hv : VR ρ v v') (i : Nat) :
    L2 (EntR ρ) (setAt (fun e => { e with key := k, val := v }) es i) (es'.modify i fun e => { e with key := k', val := v' }).toList := by
  refine L2.of_get (by rw [setAt_length, he.length]; simp) fun j a b ha hb => ?_
  rw [setAt_get] at ha
  rw [Array.getElem?_toList, Array.getElem?_modify] at hb
  by_cases hj : j = i
  · subst hj
    rw [if_pos rfl] at ha hb
    cases e1 : es[j]? with
    | none => rw [e1] at ha; cases ha
    | some x =>
      rw [e1] at ha; cases ha
      obtain ⟨y, y1, y2⟩ := he.get e1
      rw [Array.getElem?_toList] at y1
      rw [y1] at hb; cases hb
      exact ⟨hk, hv, y2.2.2⟩
  · rw [if_neg hj] at ha
    rw [if_neg (fun e => hj e.symm)] at hb
    obtain ⟨y, y1, y2⟩ := he.get ha
    rw [Array.getElem?_toList] at y1
    rw [y1] at hb; cases hb
    exact y2

theorem mapUpd_sim (hr : Rel B ro ρ s.heap.get w) {t : TypeId} {m k v m' k' v' : Value} {s' : St} (h : mapUpd P ro s t m k v = some s') (hm : VR ρ m m') (hk : VR ρ k k') (hv : VR ρ v v') :
    ∃ w', (Instr.mapUpdate t m' k' v').run P w = .ok () w' ∧ Step B ro ρ s w ρ s' w' := by
  unfold mapUpd at h
  split at h
  · rename_i key elem r hu
    obtain ⟨i, hi, he⟩ := hm.map_inv
    rw [he]
    split at h
    · rename_i kd es c hkd hmp
      obtain ⟨es', m1, m2⟩ := map_obj hr hmp hi
      have hilt : i.b < w.heap.size := hr.inb _ _ hi
      cases hb : (basicKey kd && Nat.ble ro r) with
      | false => rw [hb] at h; cases h
      | true =>
        rw [hb] at h
        simp only [cond_true] at h
        simp only [Bool.and_eq_true, Nat.ble_eq] at hb
        have turn : ∀ (O : AObj) (es2 : Array MapEntry) (c2 : Nat), O = .map es2.toList c2 → False → True := fun _ _ _ _ h => h.elim
        have fin : ∀ (es1 : List MapEntry) (es2 : Array MapEntry) (c2 : Nat), L2 (EntR ρ) es1 es2.toList →
            Step B ro ρ s w ρ ⟨s.heap.set r (.map es1 c2), s.next⟩ { w with heap := w.heap.setIfInBounds i.b (.map es2 c2) } := by
          intro es1 es2 c2 hl
          refine Step.turn hr hb.2 hi (mapOf_some hmp) rfl (by simp) (fun q hq => ?_) rfl rfl rfl ⟨es2, ?_, hl⟩
          · simp only [Array.getElem?_setIfInBounds]; rw [if_neg (fun e => hq e.symm)]
          · simp [hilt]
        split at h
        · cases h
        · rename_i j u hf
          rw [setObjK_eq] at h; cases h
          obtain ⟨r', f1, f2, f3⟩ := findK_sim hk es es'.toList 0 _ m2 hf
          cases f2 with
          | some hv2 =>
            obtain ⟨_, e, e1, e2⟩ := f3 _ _ rfl
            rw [Nat.sub_zero, Array.getElem?_toList] at e1
            refine ⟨_, ?_, fin _ (es'.modify j fun e => { e with key := k', val := v' }) c (ents_set m2 hk hv j)⟩
            have hb2 : Instr.sameBits 10000 e.key k' = true := sameNow_bits (n := 9999) e2
            simp only [Instr.mapUpdate, Sem.run_bind, run_und hu, Result.andThen_ok, run_getObj_map m1, run_checkKey hkd hb.1, run_findKey hkd f1, e1, Option.map_some, Option.getD_some, Instr.keyThatStays, hb2, if_true, Sem.run_pure, run_setObj m1 rfl]
        · rename_i hf
          rw [setObjK_eq] at h; cases h
          obtain ⟨r', f1, f2, _⟩ := findK_sim hk es es'.toList 0 _ m2 hf
          cases f2 with
          | none =>
            refine ⟨_, ?_, fin _ (es'.push { key := k', val := v', born := c }) (c + 1) (by rw [Array.toList_push]; exact m2.append (.cons ⟨hk, hv, rfl⟩ .nil))⟩
            simp only [Instr.mapUpdate, Sem.run_bind, run_und hu, Result.andThen_ok, run_getObj_map m1, run_checkKey hkd hb.1, run_findKey hkd f1, run_setObj m1 rfl]
    · cases h
  · cases h

theorem ok_mapUpdate {o : Oper} {t : TypeId} {m k x : Operand} {r : Res} (ho : o.op = .mapUpdate t m k x ∨ o.op = .insert t m k x) (h : evalOp P ro tm o.op s = some r) : OpOk P B ro tm o s r := by
  intro ρ w ac hr ht hro hfr
  have h : (match mapUpd P ro s t (opv tm m) (opv tm k) (opv tm x) with | some s => some (Res.val und s) | none => none) = some r := by
    rcases ho with ho | ho <;> (rw [ho] at h; exact h)
  have hex : execOp ac.eval o = (do Instr.mapUpdate t (ac.eval m) (ac.eval k) (ac.eval x); pure .skip) := by
    rcases ho with ho | ho <;> simp only [execOp, ho]
  rw [hex]
  split at h
  · rename_i s' hs
    cases h
    obtain ⟨w', h1, h2⟩ := mapUpd_sim hr hs (opv_rel ht m) (opv_rel ht k) (opv_rel ht x)
    exact ⟨ρ, w', undef, .inr ⟨by simp [h1], rfl⟩, h2, VR.und ρ⟩
  · cases h

theorem eraseAt_eq {α : Type} : ∀ (l : List α) (i : Nat), eraseAt l i = l.eraseIdx i
  | [], i => by simp [eraseAt]
  | a :: l, 0 => by simp [eraseAt]
  | a :: l, i + 1 => by simp [eraseAt, eraseAt_eq l i]

theorem L2.eraseIdx {α β : Type} {R : α → β → Prop} {l : List α} {m : List β} (h : L2 R l m) (i : Nat) : L2 R (l.eraseIdx i) (m.eraseIdx i) := by
  induction h generalizing i with
  | nil => simp; exact .nil
  | cons h t ih => cases i with
    | zero => exact t
    | succ i => exact .cons h (ih i)

theorem set_same {r : Nat} {o : Obj} (h : w.heap[r]? = some o) : ({ w with heap := w.heap.setIfInBounds r o } : World).heap = w.heap := by
  apply Array.ext_getElem?
  intro k
  rw [Array.getElem?_setIfInBounds]
  split
  · rename_i e; subst e
    split
    · exact h.symm
    · rename_i hn; rw [Array.getElem?_eq_none (by omega)]
  · rfl

theorem mapDel_sim (hr : Rel B ro ρ s.heap.get w) {t : TypeId} {m k m' k' : Value} {s' : St} (h : mapDel P ro s t m k = some s') (hm : VR ρ m m') (hk : VR ρ k k') (ty : TypeId) (ts : Array TypeId) (hts : ts[0]? = some t) :
    ∃ w', (Builtin.delete_ ts ty #[m', k']).run P w = .ok (.tuple #[]) w' ∧ Step B ro ρ s w ρ s' w' := by
  unfold mapDel at h
  split at h
  · rename_i key elem r hu
    obtain ⟨i, hi, he⟩ := hm.map_inv
    rw [he]
    split at h
    · rename_i kd es c hkd hmp
      obtain ⟨es', m1, m2⟩ := map_obj hr hmp hi
      have hilt : i.b < w.heap.size := hr.inb _ _ hi
      cases hb : (basicKey kd && Nat.ble ro r) with
      | false => rw [hb] at h; cases h
      | true =>
        rw [hb] at h
        simp only [cond_true] at h
        simp only [Bool.and_eq_true, Nat.ble_eq] at hb
        split at h
        · cases h
        · rename_i j u hf
          rw [setObjK_eq] at h; cases h
          obtain ⟨r', f1, f2, f3⟩ := findK_sim hk es es'.toList 0 _ m2 hf
          cases f2 with
          | some hv2 =>
            refine ⟨{ w with heap := w.heap.setIfInBounds i.b (.map (es'.eraseIdxIfInBounds j) c) }, ?_, Step.turn hr hb.2 hi (mapOf_some hmp) rfl (by simp) (fun q hq => ?_) rfl rfl rfl ⟨es'.eraseIdxIfInBounds j, by simp [hilt], ?_⟩⟩
            · simp [Builtin.delete_, hts, run_und hu, run_getObj_map m1, run_checkKey hkd hb.1, run_findKey hkd f1, run_setObj m1 rfl]
            · simp only [Array.getElem?_setIfInBounds]; rw [if_neg (fun e => hq e.symm)]
            · rw [eraseAt_eq]
              have : (es'.eraseIdxIfInBounds j).toList = es'.toList.eraseIdx j := by
                simp [Array.eraseIdxIfInBounds]
                split
                · simp
                · rename_i hn; rw [List.eraseIdx_of_length_le (by simpa using hn)]
              rw [this]; exact m2.eraseIdx j
        · rename_i hf
          cases h
          obtain ⟨r', f1, f2, _⟩ := findK_sim hk es es'.toList 0 _ m2 hf
          cases f2 with
          | none =>
            refine ⟨{ w with heap := w.heap.setIfInBounds i.b (.map es' c) }, ?_, Step.drew hr (set_same m1) rfl rfl rfl⟩
            simp [Builtin.delete_, hts, run_und hu, run_getObj_map m1, run_checkKey hkd hb.1, run_findKey hkd f1, run_setObj m1 rfl]
    · cases h
  · cases h

/-! ### Ranging -/

theorem ok_range {o : Oper} {t : TypeId} {x : Operand} {r : Res} (ho : o.op = .range t x) (h : evalOp P ro tm o.op s = some r) : OpOk P B ro tm o s r := by
  intro ρ w ac hr ht hro hfr
  rw [ho] at h; simp only [evalOp] at h
  have hx := opv_rel ht x
  have hex : (execOp ac.eval o).run P w = ((Instr.range t (ac.eval x)).run P w).andThen fun v w' => .ok (.value v) w' := by simp [execOp, ho]
  rw [hex]
  have fin : ∀ (O : AObj) (O' : Obj), (∀ ν, s.next ≤ ν → ν < s.next + 1 → ρ ν = none) → ObjR (ρ.upd s.next ⟨w.heap.size, 0, 0, 0, 0, false, false⟩) ⟨w.heap.size, 0, 0, 0, 0, false, false⟩ (w.alloc O') O →
      (Instr.range t (ac.eval x)).run P w = .ok (.pointer (some ⟨w.heap.size, 0, none⟩)) (w.alloc O') →
      ResR P B ro ρ s w (((Instr.range t (ac.eval x)).run P w).andThen fun v w' => .ok (.value v) w') (.val (.pointer (some ⟨s.next, 0, none⟩)) ⟨s.heap.set s.next O, s.next + 1⟩) := by
    intro O O' hf hO hrun
    have hf : ρ s.next = none := hf _ (Nat.le_refl _) (by simp)
    exact ⟨_, w.alloc O', _, .inl (by rw [hrun]; rfl), Step.new hr hro hf rfl rfl (O := O') rfl rfl rfl rfl hO, .ptr (Ren.upd_same _ _ _)⟩
  have hnew : ∀ (O' : Obj), (w.alloc O').heap[w.heap.size]? = some O' := fun O' => by show (w.heap.push _)[w.heap.size]? = _; simp
  unfold rangeOf at h
  split at h
  · rename_i b hu ha
    rw [newObjK_eq] at h; cases h
    rw [ha] at hx
    exact fin _ (.stringIter b 0) hfr ⟨rfl, hnew _⟩ (by rw [hx.string_inv]; simp [Instr.range, run_und hu])
  · rename_i k e hu ha
    rw [newObjK_eq] at h; cases h
    rw [ha] at hx
    exact fin _ (.mapIter none 0 #[] 0) hfr ⟨rfl, none, hnew _, rfl⟩ (by rw [hx.mapNil_inv]; simp [Instr.range, run_und hu])
  · rename_i k e m hu ha
    rw [ha] at hx
    obtain ⟨i, hi, he⟩ := hx.map_inv
    split at h
    · rename_i es c hm
      rw [newObjK_eq] at h; cases h
      obtain ⟨es', m1, m2⟩ := map_obj hr hm hi
      have hf : ρ s.next = none := hfr _ (Nat.le_refl _) (by simp [Res.next])
      exact fin _ (.mapIter (some i.b) c #[] c) hfr ⟨rfl, some i.b, hnew _, i, (by rw [Ren.upd_ne]; exact hi; intro e; subst e; rw [hf] at hi; cases hi), rfl⟩ (by rw [he]; simp [Instr.range, run_und hu, run_getObj_map m1])
    · cases h
  · cases h

theorem memNat_eq : ∀ (l : List Nat) (n : Nat), memNat l n = l.contains n
  | [], n => rfl
  | a :: l, n => by
    simp only [memNat, memNat_eq l n, List.contains_cons]
    cases h : Nat.beq a n with
    | true => have := Nat.eq_of_beq_eq_true h; subst this; simp
    | false =>
      have : ¬ n = a := fun e => by subst e; simp at h
      simp [this]

theorem all_born {es : List MapEntry} {es' : List MapEntry} (he : L2 (EntR ρ) es es') (f : Nat → Bool) : (es.all fun e => f e.born) = es'.all fun e => f e.born := by
  induction he with
  | nil => rfl
  | cons h _ ih => simp only [List.all_cons, ih, h.2.2]

theorem filter_born {es : List MapEntry} {es' : List MapEntry} (he : L2 (EntR ρ) es es') (f : Nat → Bool) : L2 (EntR ρ) (es.filter fun e => f e.born) (es'.filter fun e => f e.born) := by
  induction he with
  | nil => exact .nil
  | cons h _ ih =>
    simp only [List.filter_cons, h.2.2]
    split
    · exact .cons h ih
    · exact ih

theorem ok_next {o : Oper} {x : Operand} {isS : Bool} {r : Res} (ho : o.op = .next x isS) (h : evalOp P ro tm o.op s = some r) : OpOk P B ro tm o s r := by
  intro ρ w ac hr ht hro hfr
  rw [ho] at h; simp only [evalOp] at h
  have hx := opv_rel ht x
  have hex : (execOp ac.eval o).run P w = ((Instr.next (ac.eval x) isS o.type).run P w).andThen fun v w' => .ok (.value v) w' := by simp [execOp, ho]
  rw [hex]
  unfold nextOf at h
  split at h
  · rename_i rr ha
    rw [ha] at hx
    obtain ⟨_, i, hi, he⟩ := hx.ptr_inv
    simp only at hi he
    have hilt : i.b < w.heap.size := hr.inb _ _ hi
    have tr : ∀ (O : AObj) (O' : Obj) (o0 : AObj) (o0' : Obj), ro ≤ rr → s.heap.get rr = some o0 → o0.alive = true → w.heap[i.b]? = some o0' → Obj.noRow o0' = true → ObjR ρ i { w with heap := w.heap.setIfInBounds i.b O' } O →
        Step B ro ρ s w ρ ⟨s.heap.set rr O, s.next⟩ { w with heap := w.heap.setIfInBounds i.b O' } := by
      intro O O' o0 o0' h1 h2 h3 h4 h5 h6
      refine Step.turn hr h1 hi h2 h3 (by simp) (fun q hq => ?_) rfl rfl rfl h6
      simp only [Array.getElem?_setIfInBounds]; rw [if_neg (fun e => hq e.symm)]
    have hset : ∀ O' : Obj, (w.heap.setIfInBounds i.b O')[i.b]? = some O' := fun O' => by simp [hilt]
    cases hro2 : Nat.ble ro rr with
    | false => rw [hro2] at h; cases h
    | true =>
    rw [hro2] at h
    simp only [cond_true] at h
    have hro2 : ro ≤ rr := by simpa using hro2
    split at h
    · rename_i b pos hs
      obtain ⟨h0, hw0⟩ : i.r = 0 ∧ w.heap[i.b]? = some (.stringIter b pos) := hr.obj _ _ _ hi hs
      rw [h0] at he
      have hl : b.data.toList.length = b.size := by rw [Array.length_toList]; rfl
      cases hb : Nat.blt pos b.data.toList.length with
      | false =>
        rw [hb] at h; cases h
        have : ¬ pos < b.size := by rw [← hl]; intro e; rw [Nat.blt_eq.mpr e] at hb; cases hb
        refine .same hr (v' := .tuple #[.bool false]) ?_ (VR.tuple_of (.cons (.bool _) .nil))
        simp [Instr.next, he, run_getObj_siter hw0, this]
      | true =>
        rw [hb] at h
        simp only [cond_true, setObjK_eq] at h
        cases h
        have : pos < b.size := by rw [← hl]; exact Nat.blt_eq.mp hb
        refine ⟨ρ, _, .tuple #[.bool true, goInt pos, .int .i32 (Utf8.decode b pos).1], .inl ?_, tr _ (.stringIter b (pos + (Utf8.decode b pos).2)) _ _ hro2 hs rfl hw0 rfl ⟨h0, hset _⟩, VR.tuple_of (.cons (.bool _) (.cons (.int _ _) (.cons (.int _ _) .nil)))⟩
        simp [Instr.next, he, run_getObj_siter hw0, this, run_setObj hw0 rfl]
    · rename_i a b c hs
      obtain ⟨h0, m', hw0, hm'⟩ : i.r = 0 ∧ ∃ m', w.heap[i.b]? = some (.mapIter m' a b.toArray c) ∧ m' = none := hr.obj _ _ _ hi hs
      subst hm'
      rw [h0] at he
      cases h
      refine .same hr (v' := .tuple #[.bool false]) ?_ (VR.tuple_of (.cons (.bool _) .nil))
      simp [Instr.next, he, run_getObj_miter hw0]
    · rename_i m since seen last hs
      obtain ⟨h0, m', hw0, j, hj, hm'⟩ : i.r = 0 ∧ ∃ m', w.heap[i.b]? = some (.mapIter m' since seen.toArray last) ∧ ∃ j, ρ m = some j ∧ m' = some j.b := hr.obj _ _ _ hi hs
      subst hm'
      rw [h0] at he
      split at h
      · cases h
      · rename_i es clock hmo
        obtain ⟨es', q1, q2⟩ := map_obj hr hmo hj
        have hall := all_born q2 (fun b => Nat.ble last b)
        have hfil := filter_born q2 (fun b => !memNat seen b)
        have hemp : es.isEmpty = es'.toList.isEmpty := by
          have := q2.length
          cases es <;> cases hh : es'.toList <;> simp_all
        cases hbad : (!seen.isEmpty && !es.isEmpty && es.all fun e => Nat.ble last e.born) with
        | true => rw [hbad] at h; cases h
        | false =>
          rw [hbad] at h
          simp only [cond_false] at h
          have hbad' : (!seen.toArray.isEmpty && !es'.isEmpty && es'.all (fun e => decide (e.born ≥ last))) = false := by
            have e1 : seen.toArray.isEmpty = seen.isEmpty := by simp
            have e2 : es'.isEmpty = es.isEmpty := by rw [hemp]; simp
            have e3 : es'.all (fun e => decide (e.born ≥ last)) = es.all fun e => Nat.ble last e.born := by
              rw [hall, ← Array.all_toList]
              congr 1
              funext e
              rw [Bool.eq_iff_iff]; simp
            rw [e1, e2, e3]; exact hbad
          have hleft : (es'.filter fun e => !seen.toArray.contains e.born).toList = es'.toList.filter fun e => !memNat seen e.born := by
            rw [Array.toList_filter]
            congr 1
            funext e
            rw [memNat_eq]; simp
          have hcomm : ∀ (cands : Array (Option MapEntry)) (k : Sem Value), k = k → True := fun _ _ _ => trivial
          split at h
          · rename_i hlf
            cases h
            rw [hlf] at hfil
            have hnil := L2.nil_left hfil
            rw [← hleft] at hnil
            have harr : (es'.filter fun e => !seen.toArray.contains e.born) = #[] := by
              apply Array.ext'; rw [hnil]
            refine .same hr (v' := .tuple #[.bool false]) ?_ (VR.tuple_of (.cons (.bool _) .nil))
            simp only [Instr.next, he, Sem.run_bind, run_getObj_miter hw0, Result.andThen_ok, run_getObj_map q1, hbad', Bool.false_eq_true, if_false, harr]
            simp [Question.forced, choose, Sem.run]
          · rename_i e hlf
            cases hborn : Nat.blt e.born since with
            | false => rw [hborn] at h; cases h
            | true =>
              rw [hborn] at h
              simp only [cond_true, setObjK_eq] at h
              cases h
              rw [hlf] at hfil
              obtain ⟨e', tl, htl, hee, htl2⟩ := L2.cons_left hfil
              have htl3 := L2.nil_left htl2
              subst htl3
              rw [← hleft] at htl
              have harr : (es'.filter fun e => !seen.toArray.contains e.born) = #[e'] := by
                apply Array.ext'; rw [htl]
              have hb2 : e'.born < since := by rw [← hee.2.2]; exact Nat.blt_eq.mp hborn
              refine ⟨ρ, _, .tuple #[.bool true, e'.key, e'.val], .inl ?_, tr _ (.mapIter (some j.b) since (seen.toArray.push e'.born) clock) _ _ hro2 hs rfl hw0 rfl ⟨h0, some j.b, ?_, j, hj, rfl⟩,
                VR.tuple_of (.cons (.bool _) (.cons hee.1 (.cons hee.2.1 .nil)))⟩
              · simp only [Instr.next, he, Sem.run_bind, run_getObj_miter hw0, Result.andThen_ok, run_getObj_map q1, hbad', Bool.false_eq_true, if_false, harr]
                have hn : ¬ (e'.born ≥ since) := by omega
                simp [Question.forced, choose, Sem.run, hb2, hn, run_setObj hw0 rfl]
              · show (w.heap.setIfInBounds i.b _)[i.b]? = _
                rw [hset, hee.2.2]
                congr 2
                simp
          · cases h
    · cases h
  · cases h

theorem lastOf_eq : ∀ (l : List Nat), lastOf l = l.getLast?
  | [] => rfl
  | [a] => rfl
  | a :: b :: l => by simp only [lastOf, lastOf_eq (b :: l)]; simp

theorem find_born {es : List MapEntry} {es' : List MapEntry} (he : L2 (EntR ρ) es es') (st : Nat) {e : MapEntry} (h : es.find? (fun e => Nat.beq e.born st) = some e) :
    ∃ e', es'.find? (fun e => e.born == st) = some e' ∧ EntR ρ e e' := by
  induction he with
  | nil => cases h
  | @cons a b l m hr _ ih =>
    simp only [List.find?_cons] at h ⊢
    have : (b.born == st) = Nat.beq a.born st := by rw [← hr.2.2]; rw [Bool.eq_iff_iff]; simp
    rw [this]
    cases hb : Nat.beq a.born st with
    | true => rw [hb] at h; simp only at h; cases h; exact ⟨b, rfl, hr⟩
    | false => rw [hb] at h; simp only at h; exact ih h

theorem ok_entry {o : Oper} {x : Operand} {r : Res} (ho : o.op = .entry x) (h : evalOp P ro tm o.op s = some r) : OpOk P B ro tm o s r := by
  intro ρ w ac hr ht hro hfr
  rw [ho] at h; simp only [evalOp] at h
  have hx := opv_rel ht x
  have hex : (execOp ac.eval o).run P w = ((Instr.entry (ac.eval x)).run P w).andThen fun v w' => .ok (.value v) w' := by simp [execOp, ho]
  rw [hex]
  split at h
  · rename_i v hv
    cases h
    unfold entryOf at hv
    split at hv
    · rename_i rr ha
      rw [ha] at hx
      obtain ⟨_, i, hi, he⟩ := hx.ptr_inv
      simp only at hi he
      split at hv
      · rename_i m since seen stepped hs
        obtain ⟨h0, m', hw0, j, hj, hm'⟩ : i.r = 0 ∧ ∃ m', w.heap[i.b]? = some (.mapIter m' since seen.toArray stepped) ∧ ∃ j, ρ m = some j ∧ m' = some j.b := hr.obj _ _ _ hi hs
        subst hm'
        rw [h0] at he
        split at hv
        · rename_i stamp es clock hl hmo
          obtain ⟨es', q1, q2⟩ := map_obj hr hmo hj
          cases hb : Nat.beq clock stepped with
          | false => rw [hb] at hv; cases hv
          | true =>
            rw [hb] at hv
            simp only [cond_true] at hv
            have hcl : clock = stepped := Nat.eq_of_beq_eq_true hb
            split at hv
            · rename_i e hf
              cases hv
              obtain ⟨e', f1, f2⟩ := find_born q2 stamp hf
              rw [lastOf_eq] at hl
              refine .same hr (v' := .tuple #[e'.key, e'.val]) ?_ (VR.tuple_of (.cons f2.1 (.cons f2.2.1 .nil)))
              have hb1 : seen.toArray.back? = some stamp := by simp [hl]
              have hf1 : es'.find? (fun e => e.born == stamp) = some e' := by rw [← Array.find?_toList]; exact f1
              subst hcl
              simp [Instr.entry, he, run_getObj_miter hw0, hl, run_getObj_map q1, hf1]
            · cases hv
        · cases hv
      · cases hv
    · cases hv
  · cases h

end
end Go.Ab

namespace Go.Ab

section
variable {P : Program} {B ro : Nat} {ρ : Ren} {s : St} {w : World} {tm : T Value} {ac : Act}

/-! ### append, copy -/

theorem lenOf_sim {x x' : Value} {n : Nat} (hx : VR ρ x x') (h : lenOfV x = some n) : (Builtin.lenOf x').run P w = .ok n w := by
  unfold lenOfV at h
  split at h
  · rename_i a l c
    cases h
    cases a with
    | none => rw [hx.slcNil_inv]; rfl
    | some a => obtain ⟨a', c', he⟩ := hx.slc_some; rw [he]; rfl
  · cases h
    rw [hx.string_inv, Array.length_toList]; rfl
  · cases h

theorem cell_heap {w w' : World} (h : w'.heap = w.heap) (a : Addr) : w'.cell? a = w.cell? a := by simp [World.cell?, h]

theorem firstL_sim (hr : Rel B ro ρ s.heap.get w) {x x' : Value} {size n m : Nat} {l : List Value} (hx : VR ρ x x') (h : firstL s size n x = some l) (hm : lenOfV x = some m) (hn : n ≤ m) :
    ∃ l', (∀ w' : World, w'.heap = w.heap → (Builtin.firstCells size n x').run P w' = .ok l'.toArray w') ∧ VRs ρ l l' := by
  unfold firstL at h
  split at h
  · rename_i a len cap
    by_cases hsp0 : a.spot = none
    rotate_left
    · obtain ⟨hl0, _, a', he⟩ := hx.slc_zero hsp0
      simp only [lenOfV] at hm
      cases hm
      obtain rfl : n = 0 := by omega
      obtain rfl : l = [] := by
        cases e : a.spot with
        | none => exact absurd e hsp0
        | some k => rw [e] at h; simpa using h.symm
      rw [he]
      exact ⟨[], fun w' _ => by simp [Builtin.firstCells, loadCells, loadCellsFrom], .nil⟩
    obtain ⟨hsp, i, o', c', hi, he, hs⟩ := hx.slc_inv hsp0
    rw [hsp] at h
    simp only at h
    simp only [lenOfV] at hm
    cases hm
    obtain ⟨l', l1, l2, l3⟩ := ldCells_sim hr hi h
    refine ⟨l', fun w' hw' => ?_, l2⟩
    rw [he]
    simp only [Builtin.firstCells]
    have l4 : ∀ j v, l'[j]? = some v → w'.cell? ⟨i.b, i.r + a.off + j, none⟩ = some v := fun j v e => by rw [cell_heap hw']; exact l3 j v e
    rcases hs with h | h | h
    · rw [h.1]; exact run_loadCells_n _ _ _ l' l1 l4
    · rw [h.2.1]; exact run_loadCells_n _ _ _ l' l1 l4
    · have h0 : n = 0 := by omega
      subst h0
      have : l' = [] := by rw [← List.length_eq_zero_iff, l1]; simp
      rw [this]; simp [loadCells, loadCellsFrom]
  · rename_i len cap
    cases h
    rw [hx.slcNil_inv]
    exact ⟨[], fun _ _ => rfl, .nil⟩
  · rename_i b
    cases h
    rw [hx.string_inv]
    refine ⟨(b.data.toList.take n).map fun c => .int .u8 (.ofNat c.toNat), fun w' _ => ?_, L2.map_same fun c _ => .int _ _⟩
    simp only [Builtin.firstCells, Sem.run_pure]
    congr 1
    apply Array.ext'
    rw [extract_bytes]
    simp
  · cases h

theorem firstL_zero {x : Value} {size : Nat} {l : List Value} (h : firstL s size 0 x = some l) : l = [] := by
  unfold firstL at h
  split at h
  · split at h
    · simp [ldCells] at h; exact h
    · simpa using h.symm
  · cases h; rfl
  · cases h; rfl
  · cases h

theorem nextcap_le (need old : Nat) (h : old < need) : 4 * Builtin.nextslicecap need old ≤ 5 * need + 2816 := by
  have grow : ∀ (r c : Nat), 4 * c ≤ 5 * need + 2816 → 4 * Builtin.growBy need r c ≤ 5 * need + 2816 := by
    intro r
    induction r with
    | zero => intro c hc; simpa [Builtin.growBy] using hc
    | succ r ih =>
      intro c hc
      simp only [Builtin.growBy]
      split
      · exact hc
      · exact ih _ (by omega)
  unfold Builtin.nextslicecap
  split
  · omega
  · split
    · omega
    · exact grow _ _ (by omega)

structure AppR (P : Program) (w : World) (ts : Array TypeId) (ty : TypeId) (b x : Value) (v : Value) (w' : World) : Prop where
  run : (Builtin.append_ ts ty #[b, x]).run P w = .ok v w'

set_option maxHeartbeats 20000000 in
/-- The model's append, where the slice must be made anew. -/
theorem run_grow {elem : TypeId} {ei : TypeInfo} {ts : Array TypeId} {ty t : TypeId} {base : Option Addr} {sLen sCap n : Nat} {x' : Value} {old new : List Value} {zv : Value} (hu : P.underlying t = some (.slice elem))
    (hei : P.info? elem = some ei) (hts : ts[0]? = some t) (hx1 : ∀ u, ts[1]? = some u → ∃ d, P.underlying u = some d ∧ ∀ k, d ≠ .int k) (hlen : (Builtin.lenOf x').run P w = .ok n w)
    (hcap : sCap < sLen + n) (hneed : (sLen + n) * ei.bytes ≤ 140737488355328) (hmax : sLen + n ≤ 9223372036854775807) (hbytes : ei.bytes ≤ 16384)
    (hold : ∀ w' : World, w'.heap = w.heap → (Builtin.firstCells ei.size sLen (.slice base sLen sCap)).run P w' = .ok old.toArray w') (hnew : ∀ w' : World, w'.heap = w.heap → (Builtin.firstCells ei.size n x').run P w' = .ok new.toArray w')
    (hz : ∀ w, (zeroValue elem).run P w = .ok zv w) :
    ∃ newCap, sLen + n ≤ newCap ∧ (Builtin.append_ ts ty #[.slice base sLen sCap, x']).run P w =
      .ok (.slice (some ⟨w.heap.size, 0, none⟩) (sLen + n) newCap) (w.drew.alloc (.cells (old.toArray ++ (new.toArray ++ Builtin.zeroCells zv.cells (newCap - (sLen + n)))) elem)) := by
  refine ⟨(Question.appendCap (sLen + n) sCap elem).cut (w.tape w.drawn (.appendCap (sLen + n) sCap elem)), by simp only [Question.cut]; omega, ?_⟩
  have h1 : ¬ (sLen + n ≤ sCap) := by omega
  have h2 : ¬ (((sLen + n : Nat) : Int) > IntKind.i64.max ∧ (false = true ∨ ei.bytes = 0)) := by rw [i64max]; omega
  have h3 : ¬ (Builtin.nextslicecap (sLen + n) sCap * ei.bytes > 2 ^ 48) := by
    have a1 := nextcap_le (sLen + n) sCap hcap
    have a2 : 4 * Builtin.nextslicecap (sLen + n) sCap * ei.bytes ≤ (5 * (sLen + n) + 2816) * ei.bytes := Nat.mul_le_mul_right _ a1
    rw [Nat.add_mul, Nat.mul_assoc, Nat.mul_assoc] at a2
    have : 2 ^ 48 = 281474976710656 := rfl
    omega
  have hold' := hold w.drew rfl
  have hnew' := hnew w.drew rfl
  have hsz : (sizeOf elem).run P w = .ok ei.size w := run_sizeOf' (by simp [szOf, hei])
  have h2' : ¬ (9223372036854775807 < ((sLen : Int) + (n : Int))) := by omega
  have h3' : ¬ (281474976710656 < Builtin.nextslicecap (sLen + n) sCap * ei.bytes) := by
    have : 2 ^ 48 = 281474976710656 := rfl
    omega
  cases e : ts[1]? with
  | none =>
    simp [Builtin.append_, hts, e, run_und hu, hsz, hlen, h1, h2', h3', run_typeInfo' hei, Question.forced, hold', hnew', hz, Go.newRow]
  | some u =>
    obtain ⟨d, d1, d2⟩ := hx1 u e
    cases d <;> first
      | exact absurd rfl (d2 _)
      | simp [Builtin.append_, hts, e, run_und hu, run_und d1, hsz, hlen, h1, h2', h3', run_typeInfo' hei, Question.forced, hold', hnew', hz, Go.newRow]

set_option maxHeartbeats 20000000 in
/-- The model's append, where the slice has the room. -/
theorem run_room {elem : TypeId} {ei : TypeInfo} {ts : Array TypeId} {ty t : TypeId} {base : Option Addr} {sLen sCap n : Nat} {x' : Value} {new : List Value} {w' : World} (hu : P.underlying t = some (.slice elem))
    (hei : P.info? elem = some ei) (hts : ts[0]? = some t) (hx1 : ∀ u, ts[1]? = some u → ∃ d, P.underlying u = some d ∧ ∀ k, d ≠ .int k) (hlen : (Builtin.lenOf x').run P w = .ok n w)
    (hcap : sLen + n ≤ sCap) (hnew : (Builtin.firstCells ei.size n x').run P w = .ok new.toArray w)
    (hst : ∀ a, base = some a → (storeCells (a.add (sLen * ei.size)) new 0).run P w = .ok () w') (hno : base = none → w' = w) :
    (Builtin.append_ ts ty #[.slice base sLen sCap, x']).run P w = .ok (.slice base (sLen + n) sCap) w' := by
  have hsz : (sizeOf elem).run P w = .ok ei.size w := run_sizeOf' (by simp [szOf, hei])
  cases e : ts[1]? with
  | none =>
    cases base with
    | none => rw [hno rfl]; simp [Builtin.append_, hts, e, run_und hu, hsz, hlen, hcap, hnew]
    | some a => simp [Builtin.append_, hts, e, run_und hu, hsz, hlen, hcap, hnew, hst a rfl]
  | some u =>
    obtain ⟨d, d1, d2⟩ := hx1 u e
    cases base with
    | none =>
      rw [hno rfl]
      cases d <;> first
        | exact absurd rfl (d2 _)
        | simp [Builtin.append_, hts, e, run_und hu, run_und d1, hsz, hlen, hcap, hnew]
    | some a =>
      cases d <;> first
        | exact absurd rfl (d2 _)
        | simp [Builtin.append_, hts, e, run_und hu, run_und d1, hsz, hlen, hcap, hnew, hst a rfl]

end
end Go.Ab

namespace Go.Ab

section
variable {P : Program} {B ro : Nat} {ρ : Ren} {s : St} {w : World} {tm : T Value} {ac : Act}

theorem cellAt_lt {b : Blk} {j : Nat} {v : Value} (h : cellAt b j = some v) : j < b.n := by
  unfold cellAt at h
  cases hb : Nat.blt j b.n with
  | true => exact Nat.blt_eq.mp hb
  | false => rw [hb] at h; cases h

theorem growOf_some {elem : TypeId} {size sLen n : Nat} {a : Addr} {blk : Blk} {new : List Value} {r : Res} (hn : new.length = n * size) (h : growOf s elem size sLen (sLen + n) a blk new = some r) :
    ∃ b : Blk, r = .val (.slice (some ⟨s.next, 0, none⟩) (sLen + n) (sLen + n)) ⟨s.heap.set s.next (.cells b), s.next + 1⟩ ∧ b.n = (sLen + n) * size ∧ b.opn = true ∧ b.es = size ∧ b.str = blk.str ∧ b.dead = false ∧
      (∀ j, j < sLen * size → a.off + j < blk.n) ∧
      ∀ j v, cellAt b j = some v → (j < sLen * size ∧ cellAt blk (a.off + j) = some v) ∨ (sLen * size ≤ j ∧ new[j - sLen * size]? = some v) := by
  have hmul : (sLen + n) * size = sLen * size + n * size := Nat.add_mul _ _ _
  unfold growOf at h
  split at h
  · rename_i ho
    cases hb : Nat.ble (sLen * size) blk.n with
    | false => rw [hb] at h; cases h
    | true =>
      rw [hb] at h
      simp only [cond_true, T.setsK_eq, newObjK_eq] at h
      cases h
      have hle : sLen * size ≤ blk.n := by simpa using hb
      refine ⟨_, rfl, rfl, rfl, rfl, rfl, rfl, fun j hj => by omega, fun j v hj => ?_⟩
      have hlt := cellAt_lt hj
      simp only at hlt
      simp only [cellAt, T.get_sets] at hj
      rw [Nat.blt_eq.mpr hlt] at hj
      simp only [cond_true] at hj
      by_cases hj2 : sLen * size ≤ j ∧ j < sLen * size + new.length
      · rw [if_pos hj2] at hj
        rw [List.getElem?_eq_getElem (by omega)] at hj
        simp only at hj
        exact .inr ⟨hj2.1, by rw [List.getElem?_eq_getElem (by omega)]; exact hj⟩
      · rw [if_neg hj2] at hj
        refine .inl ⟨by omega, ?_⟩
        rw [ho, Nat.zero_add]
        simp only [cellAt]
        rw [Nat.blt_eq.mpr (show j < blk.n by omega)]
        exact hj
  · rename_i m ho
    split at h
    · cases h
    · rename_i old hold
      simp only [T.setsK_eq, newObjK_eq] at h
      cases h
      obtain ⟨h1, h2⟩ := cellsFrom_get _ _ _ _ hold
      refine ⟨_, rfl, rfl, rfl, rfl, rfl, rfl, fun j hj => ?_, fun j v hj => ?_⟩
      · have hj2 : j < old.length := by omega
        exact cellAt_lt (h2 j _ (List.getElem?_eq_getElem hj2))
      · have hlt := cellAt_lt hj
        simp only at hlt
        simp only [cellAt, T.get_sets, T.get_leaf] at hj
        rw [Nat.blt_eq.mpr hlt] at hj
        simp only [cond_true] at hj
        rw [if_pos (by simp; omega), Nat.sub_zero] at hj
        by_cases hj2 : j < sLen * size
        · rw [List.getElem?_append_left (by omega), List.getElem?_eq_getElem (by omega)] at hj
          simp only at hj
          exact .inl ⟨hj2, h2 j v (by rw [List.getElem?_eq_getElem (by omega)]; exact hj)⟩
        · rw [List.getElem?_append_right (by omega), h1, List.getElem?_eq_getElem (by omega)] at hj
          simp only at hj
          exact .inr ⟨by omega, by rw [List.getElem?_eq_getElem (by omega)]; exact hj⟩

/-- What a block's first cells are, known or not. -/
theorem cells_there {i : RI} {b : Blk} (h : CellsR ρ i b w) (o n : Nat) (hn : ∀ j, j < n → o + j < i.n) :
    ∃ l : List Value, l.length = n ∧ (∀ w' : World, w'.heap = w.heap → (loadCells ⟨i.b, i.r + o, none⟩ n).run P w' = .ok l.toArray w') ∧
      ∀ j v, j < n → cellAt b (o + j) = some v → ∃ v', l[j]? = some v' ∧ VR ρ v v' := by
  obtain ⟨cs, t, fr, h1, h2, h3, h4, h5, h6, h7⟩ := h
  have hin : ∀ j, j < n → i.r + o + j < cs.size := fun j hj => by have := hn j hj; omega
  refine ⟨(List.range n).map fun j => cs.getD (i.r + o + j) undef, by simp, fun w' hw' => ?_, fun j v hj hv => ?_⟩
  · refine run_loadCells_n _ _ _ _ (by simp) fun j v hv => ?_
    have hj : j < n := by
      have := (List.getElem?_eq_some_iff.1 hv).1
      simpa using this
    simp only [List.getElem?_map, List.getElem?_range hj, Option.map_some] at hv
    cases hv
    have := hin j hj
    simp [World.cell?, hw', h1, Array.getD, this]
  · obtain ⟨v', e1, e2⟩ := h7 _ _ hv
    refine ⟨v', ?_, e2⟩
    simp only [List.getElem?_map, List.getElem?_range hj, Option.map_some]
    have hlt := (Array.getElem?_eq_some_iff.1 e1).1
    rw [show i.r + (o + j) = i.r + o + j by omega] at e1 hlt
    rw [Array.getElem?_eq_getElem hlt] at e1
    simp [Array.getD, hlt, Option.some.inj e1]

theorem appendOf_sim (hr : Rel B ro ρ s.heap.get w) (hro : ro ≤ s.next) {ts : Array TypeId} {ty t elem : TypeId} {b x b' x' : Value} {r : Res} (h : appendOf P ro s elem b x = some r) (hb : VR ρ b b') (hx : VR ρ x x')
    (hu : P.underlying t = some (.slice elem)) (hts : ts[0]? = some t) (hx1 : ∀ u, ts[1]? = some u → ∃ d, P.underlying u = some d ∧ ∀ k, d ≠ .int k) (hfr : ∀ ν, s.next ≤ ν → ν < r.next s → ρ ν = none) :
    ∃ v s' ρ' w' v', r = .val v s' ∧ (Builtin.append_ ts ty #[b', x']).run P w = .ok v' w' ∧ Step B ro ρ s w ρ' s' w' ∧ VR ρ' v v' := by
  unfold appendOf at h
  split at h
  · rename_i ei base sLen sCap hei
    simp only at h
    split at h
    · cases h
    · rename_i n hn
      split at h
      · cases h
      · rename_i new hnew
        have hlen := lenOf_sim (P := P) (w := w) hx hn
        obtain ⟨new', g1', g2⟩ := firstL_sim (P := P) hr hx hnew hn (Nat.le_refl _)
        have g1 := g1' w rfl
        cases hroom : Nat.ble (sLen + n) sCap with
        | true =>
          rw [hroom] at h
          simp only [cond_true] at h
          have hroom : sLen + n ≤ sCap := by simpa using hroom
          cases base with
          | none =>
            simp only at h
            cases h
            refine ⟨_, _, ρ, w, .slice none (sLen + n) sCap, rfl, ?_, Step.refl hr, .slcNil _ _⟩
            rw [hb.slcNil_inv]
            exact run_room hu hei hts hx1 hlen hroom g1 (fun a e => by cases e) (fun _ => rfl)
          | some a =>
            simp only at h
            have hsp0 : a.spot = none := by
              cases e : a.spot with
              | none => rfl
              | some k => rw [e] at h; cases h
            obtain ⟨hsp, i, o', cap', hi, he, hs⟩ := hb.slc_inv hsp0
            rw [hsp] at h
            simp only at h
            split at h
            · rename_i s' hst
              cases h
              obtain ⟨w', r1, r2⟩ := stCells_sim (P := P) hr hi hst g2
              have hcap : sCap ≤ cap' := by rcases hs with h | h | h <;> omega
              obtain ⟨ab, ao, asp⟩ := a
              simp only at hsp hi hs r1
              subst hsp
              refine ⟨_, _, ρ, w', .slice (some ⟨i.b, o', none⟩) (sLen + n) cap', rfl, ?_, r2, ?_⟩
              · rw [he]
                refine run_room hu hei hts hx1 hlen (by omega) g1 (fun a e => ?_) (fun e => by cases e)
                cases e
                rw [add_none]
                rcases hs with h | h | h
                · rw [h.1, show i.r + ao + sLen * ei.size = i.r + (ao + sLen * ei.size) by omega]; exact r1
                · rw [h.2.1, show i.r + ao + sLen * ei.size = i.r + (ao + sLen * ei.size) by omega]; exact r1
                · have hn0 : n = 0 := by omega
                  subst hn0
                  have hnil := firstL_zero hnew
                  subst hnil
                  have hnil' := L2.nil_left g2
                  subst hnil'
                  simp only [storeCells, Sem.run_pure] at r1 ⊢
                  exact r1
              · refine .slc (r2.le _ _ hi) ?_
                rcases hs with h | h | h
                · exact .inl h
                · exact .inr (.inl h)
                · exact .inr (.inr ⟨h.1, by omega, h.2.2.1, h.2.2.2.1, h.2.2.2.2.1, h.2.2.2.2.2⟩)
            · cases h
        | false =>
          rw [hroom] at h
          simp only [cond_false] at h
          have hroom : sCap < sLen + n := by
            rcases Nat.lt_or_ge sCap (sLen + n) with e | e
            · exact e
            · rw [Nat.ble_eq.mpr e] at hroom; cases hroom
          cases hlim : (Nat.blt 140737488355328 ((sLen + n) * ei.bytes) || Nat.blt 9223372036854775807 (sLen + n) || Nat.blt 16384 ei.bytes || !new.all oneC || !Nat.beq new.length (n * ei.size)) with
          | true => rw [hlim] at h; cases h
          | false =>
            rw [hlim] at h
            simp only [cond_false] at h
            simp only [Bool.or_eq_false_iff, Bool.not_eq_false'] at hlim
            obtain ⟨⟨⟨⟨k1, k0⟩, k2⟩, k3⟩, k4⟩ := hlim
            have k1 : (sLen + n) * ei.bytes ≤ 140737488355328 := by
              rcases Nat.lt_or_ge 140737488355328 ((sLen + n) * ei.bytes) with e | e
              · rw [Nat.blt_eq.mpr e] at k1; cases k1
              · exact e
            have k0 : sLen + n ≤ 9223372036854775807 := by
              rcases Nat.lt_or_ge 9223372036854775807 (sLen + n) with e | e
              · rw [Nat.blt_eq.mpr e] at k0; cases k0
              · exact e
            have k2 : ei.bytes ≤ 16384 := by
              rcases Nat.lt_or_ge 16384 ei.bytes with e | e
              · rw [Nat.blt_eq.mpr e] at k2; cases k2
              · exact e
            have k4 : new.length = n * ei.size := Nat.eq_of_beq_eq_true k4
            have k4' : new'.length = n * ei.size := by rw [← g2.length]; exact k4
            have k3 : ∀ v ∈ new', v.oneCell' = true := by
              intro u hu'
              obtain ⟨k, hk⟩ := List.mem_iff_getElem?.1 hu'
              have hk2 : k < new.length := by rw [g2.length]; exact (List.getElem?_eq_some_iff.1 hk).1
              obtain ⟨u', e1, e2⟩ := g2.get (i := k) (List.getElem?_eq_getElem hk2)
              rw [hk] at e1; cases e1
              exact oneC_rel e2 (List.all_eq_true.1 k3 _ (List.getElem_mem hk2))
            split at h
            · cases h
            · rename_i z hz
              obtain ⟨zv, z1, z2⟩ := zeroC_run hz
              cases hzl : Nat.beq z.length ei.size with
              | false => rw [hzl] at h; cases h
              | true =>
                rw [hzl] at h
                simp only [Bool.not_true, cond_false] at h
                have hzl : zv.cells.size = ei.size := by
                  have e1 := (z2 ρ).length
                  have e2 : z.length = ei.size := Nat.eq_of_beq_eq_true hzl
                  rw [← e2, e1]; simp
                have hzc : ∀ k, (Builtin.zeroCells zv.cells k).size = k * ei.size := fun k => by simp [Builtin.zeroCells, hzl]
                cases base with
                | none =>
                  simp only at h
                  cases hs0 : Nat.beq sLen 0 with
                  | false => rw [hs0] at h; cases h
                  | true =>
                    rw [hs0] at h
                    simp only [cond_true, newRow_eq] at h
                    cases h
                    have hs0 : sLen = 0 := Nat.eq_of_beq_eq_true hs0
                    subst hs0
                    have hf : ρ s.next = none := hfr _ (Nat.le_refl _) (by simp [Res.next])
                    obtain ⟨newCap, c1, c2⟩ := run_grow (base := none) (old := []) (ty := ty) hu hei hts hx1 hlen hroom k1 k0 k2 (fun w' _ => rfl) g1' z1
                    refine ⟨_, _, _, w.drew.alloc (.cells (([] : List Value).toArray ++ (new'.toArray ++ Builtin.zeroCells zv.cells (newCap - (0 + n)))) elem), .slice (some ⟨w.heap.size, 0, none⟩) (0 + n) newCap, rfl, (by rw [hb.slcNil_inv]; exact c2), Step.newRow hr hro hf (vs' := new') (rest := (Builtin.zeroCells zv.cells (newCap - (0 + n))).toList) (t := elem) ?_ rfl rfl rfl g2 (fun e => by cases e), ?_⟩
                    · show w.heap.push _ = w.heap.push _
                      congr 2
                      apply Array.ext'; simp
                    · refine .slc (Ren.upd_same _ _ _) (.inr (.inl ⟨rfl, rfl, ?_, c1, ?_⟩))
                      · simp only [Nat.zero_add]; exact k4.symm
                      · simp only [List.length_append, Array.length_toList, hzc, k4']
                        rw [← Nat.add_mul, Nat.zero_add]
                        apply Nat.mul_le_mul_right
                        omega
                | some a =>
                  simp only at h
                  have hsp0 : a.spot = none := by
                    cases e : a.spot with
                    | none => rfl
                    | some k => rw [e] at h; cases h
                  obtain ⟨hsp, i, o', cap', hi, he, hs⟩ := hb.slc_inv hsp0
                  rw [hsp] at h
                  simp only at h
                  split at h
                  · cases h
                  · rename_i blk hblk
                    obtain ⟨hb1, hb2⟩ := liveBlk_some hblk
                    obtain ⟨hC, hin, hio, hie⟩ := live_cells hr hb1 hb2 hi
                    have hC0 := hC
                    obtain ⟨cs, tt, fr, p1, p2, p3, p4, p5, p6, p7⟩ := hC0
                    -- the model makes a new row, and what it holds
                    have grown : ∀ (s1 : St) (w1 : World) (b1 : Blk), w1.heap = w.heap → w1.os = w.os → w1.tape = w.tape → w1.output = w.output → Rel B ro ρ s1.heap.get w → s1.next = s.next → ρ s.next = none →
                        b1.n = (sLen + n) * ei.size → b1.opn = true → b1.es = ei.size → b1.dead = false → (∀ j, j < sLen * ei.size → a.off + j < blk.n) →
                        (∀ j v, cellAt b1 j = some v → (j < sLen * ei.size ∧ cellAt blk (a.off + j) = some v) ∨ (sLen * ei.size ≤ j ∧ new[j - sLen * ei.size]? = some v)) → cap' < sLen + n →
                        ∃ ρ' w' v', (Builtin.append_ ts ty #[b', x']).run P w = .ok v' w' ∧ Step B ro ρ s1 w ρ' ⟨s1.heap.set s1.next (.cells b1), s1.next + 1⟩ w' ∧ VR ρ' (.slice (some ⟨s1.next, 0, none⟩) (sLen + n) (sLen + n)) v' := by
                      intro s1 w1 b1 _ _ _ _ hr1 hn1 hf q1 q2 q3 q4 q5 q6 q7
                      obtain ⟨old, o1, o2, o3⟩ := cells_there (P := P) hC a.off (sLen * ei.size) (fun j hj => by rw [hin]; exact q5 j hj)
                      have hold : ∀ w' : World, w'.heap = w.heap → (Builtin.firstCells ei.size sLen (.slice (some ⟨i.b, o', none⟩) sLen cap')).run P w' = .ok old.toArray w' := by
                        intro w' hw'
                        simp only [Builtin.firstCells]
                        rcases hs with h | h | h
                        · rw [h.1]; exact o2 w' hw'
                        · rw [h.2.1]; exact o2 w' hw'
                        · have h0 : sLen = 0 := h.2.1
                          subst h0
                          have : old = [] := by rw [← List.length_eq_zero_iff, o1]; simp
                          rw [this]; simp [loadCells, loadCellsFrom]
                      obtain ⟨newCap, c1, c2⟩ := run_grow (ty := ty) hu hei hts hx1 hlen q7 k1 k0 k2 hold g1' z1
                      have hsz : (old.toArray ++ (new'.toArray ++ Builtin.zeroCells zv.cells (newCap - (sLen + n)))).size = newCap * ei.size := by
                        simp only [Array.size_append, List.size_toArray, hzc, o1, k4']
                        rw [← Nat.add_mul, ← Nat.add_mul]
                        congr 1; omega
                      have hf1 : ρ s1.next = none := by rw [hn1]; exact hf
                      refine ⟨_, w.drew.alloc (.cells (old.toArray ++ (new'.toArray ++ Builtin.zeroCells zv.cells (newCap - (sLen + n)))) elem), .slice (some ⟨w.heap.size, 0, none⟩) (sLen + n) newCap, (by rw [he]; exact c2), Step.newCells hr1 (by omega) hf1 (b := b1) (t := elem) (fr := (0, 0)) rfl rfl rfl rfl (.inl rfl) (fun _ => rfl) ?_ (fun e => by rw [q2] at e; cases e) ?_, ?_⟩
                      · rw [hsz, q1]; exact Nat.mul_le_mul_right _ c1
                      · intro j v hj
                        rcases q6 j v hj with ⟨d1, d2⟩ | ⟨d1, d2⟩
                        · obtain ⟨v', e1, e2⟩ := o3 j v d1 d2
                          refine ⟨v', ?_, e2⟩
                          rw [Array.getElem?_append_left (by simp; omega)]; simpa using e1
                        · obtain ⟨v', e1, e2⟩ := g2.get d2
                          refine ⟨v', ?_, e2⟩
                          have := (List.getElem?_eq_some_iff.1 e1).1
                          rw [Array.getElem?_append_right (by simp; omega), Array.getElem?_append_left (by simp; omega)]
                          simpa [o1] using e1
                      · refine .slc (Ren.upd_same _ _ _) (.inr (.inl ⟨q2, rfl, ?_, c1, ?_⟩))
                        · simp only; rw [q1, q3]; omega
                        · simp only; rw [hsz, q3]; omega
                    cases hexa : exactCap blk a.off sCap with
                    | true =>
                      rw [hexa] at h
                      simp only [cond_true] at h
                      have hcap : cap' = sCap := by
                        rcases hs with h | ⟨e1, _, e3, _⟩ | ⟨e1, _, e3, e4, _⟩
                        · exact h.2
                        · exact absurd (by rw [← hie, ← hin]; exact e3) (exactCap_true hexa (hio.symm.trans e1))
                        · exact absurd (by rw [← hie, ← hin, e3, e4]; omega) (exactCap_true hexa (hio.symm.trans e1))
                      obtain ⟨b1, rfl, q1, q2, q3, q4, q5, q6, q7⟩ := growOf_some k4 h
                      have hf : ρ s.next = none := hfr _ (Nat.le_refl _) (by simp [Res.next])
                      obtain ⟨ρ', w', v', r1, r2, r3⟩ := grown s w b1 rfl rfl rfl rfl hr rfl hf q1 q2 q3 q5 q6 q7 (by omega)
                      exact ⟨_, _, ρ', w', v', rfl, r1, r2, r3⟩
                    | false =>
                      rw [hexa] at h
                      simp only [cond_false] at h
                      obtain ⟨hopn, hend⟩ := exactCap_false hexa
                      cases hw2 : (Nat.ble ro a.block && Nat.beq blk.es ei.size) with
                      | false => rw [hw2] at h; cases h
                      | true =>
                        rw [hw2] at h
                        simp only [cond_true, setObjK_eq] at h
                        simp only [Bool.and_eq_true, Nat.ble_eq] at hw2
                        have hes : blk.es = ei.size := Nat.eq_of_beq_eq_true hw2.2
                        obtain ⟨b1, rfl, q1, q2, q3, q4, q5, q6, q7⟩ := growOf_some k4 h
                        have hf : ρ s.next = none := hfr _ (Nat.le_refl _) (by simp [Res.next])
                        by_cases hin2 : sLen + n ≤ cap'
                        · -- it has the room after all
                          have hbnd : o' + cap' * ei.size ≤ i.sz := by
                            rcases hs with h | h | h
                            · omega
                            · have := h.2.2.2.2; rw [hie, hes] at this; exact this
                            · have := h.2.2.2.2.2; rw [hie, hes] at this; exact this
                          have hmul : (sLen + n) * ei.size = sLen * ei.size + n * ei.size := Nat.add_mul _ _ _
                          have hmul2 : (sLen + n) * ei.size ≤ cap' * ei.size := Nat.mul_le_mul_right _ hin2
                          have hoff : sLen * ei.size = 0 ∨ o' = i.r + a.off := by
                            rcases hs with h | h | h
                            · exact .inr h.1
                            · exact .inr h.2.1
                            · left; rw [h.2.1]; simp
                          obtain ⟨w', cs', r1, r2, r3, r4, r5, r6, r7, r8, r9⟩ := run_stores (P := P) i.b (o' + sLen * ei.size) new' 0 w cs tt fr p1 (by rw [k4', p2]; omega) (p4 (hr.own _ i hi hw2.1).2) k3
                          refine ⟨_, _, ρ.upd s.next ⟨i.b, o', (sLen + n) * ei.size, i.sz, ei.size, true, false⟩, w', .slice (some ⟨i.b, o', none⟩) (sLen + n) cap', rfl, ?_, ?_, ?_⟩
                          · rw [he]
                            exact run_room hu hei hts hx1 hlen hin2 g1 (fun a e => (by cases e; rw [add_none]; exact r1)) (fun e => (by cases e))
                          · refine Step.renew hr hro hf hw2.1 hi hb1 hb2 (i' := ⟨i.b, o', (sLen + n) * ei.size, i.sz, ei.size, true, false⟩) rfl rfl r2 r3 r7 r8 r9 ⟨q1.symm, q2.symm, q3.symm, fun _ => ?_⟩
                            refine ⟨cs', tt, fr, r4, r5.trans p2, by simp only; omega, by rw [r5]; exact fun _ => p4 (hr.own _ i hi hw2.1).2, (fun e => p5 (by rw [← q4]; exact e)), (fun e => by rw [q2] at e; cases e), fun j v hj => ?_⟩
                            simp only
                            rcases q7 j v hj with ⟨d1, d2⟩ | ⟨d1, d2⟩
                            · obtain ⟨v', e1, e2⟩ := p7 _ _ d2
                              refine ⟨v', ?_, e2.mono (Ren.le_upd _ hf)⟩
                              rw [r6, if_neg (by omega)]
                              rw [show o' + j = i.r + (a.off + j) by omega]; exact e1
                            · obtain ⟨v', e1, e2⟩ := g2.get d2
                              refine ⟨v', ?_, e2.mono (Ren.le_upd _ hf)⟩
                              have := (List.getElem?_eq_some_iff.1 e1).1
                              rw [r6, if_pos (by omega)]
                              rw [show o' + j - (o' + sLen * ei.size + 0) = j - sLen * ei.size by omega]; exact e1
                          · exact VR.slc (i := ⟨i.b, o', (sLen + n) * ei.size, i.sz, ei.size, true, false⟩) (Ren.upd_same _ _ _) (.inr (.inl ⟨rfl, rfl, Nat.zero_add _, hin2, hbnd⟩))
                        · have hkill := Step.turn (w' := w) (o' := .cells { blk with dead := true }) hr hw2.1 hi hb1 (by simp [AObj.alive, hb2]) rfl (fun _ _ => rfl) rfl rfl rfl ⟨hin, hio, hie, fun e => by cases e⟩
                          obtain ⟨ρ', w', v', r1, r2, r3⟩ := grown ⟨s.heap.set a.block (.cells { blk with dead := true }), s.next⟩ w b1 rfl rfl rfl rfl hkill.rel rfl hf q1 q2 q3 q5 q6 q7 (by omega)
                          exact ⟨_, _, ρ', w', v', rfl, r1, hkill.trans r2, r3⟩
  · cases h

end
end Go.Ab

namespace Go.Ab

section
variable {P : Program} {B ro : Nat} {ρ : Ren} {s : St} {w : World} {tm : T Value} {ac : Act}

theorem len_sim (hr : Rel B ro ρ s.heap.get w) {t : TypeId} {x x' v : Value} {ts : Array TypeId} {ty : TypeId} {args : Array Value} (h : lenB P s t x = some v) (hx : VR ρ x x') (hts : ts[0]? = some t) (ha : args[0]? = some x') :
    (Builtin.len_ ts ty args).run P w = .ok v w ∧ VR ρ v v := by
  have num : ∀ n : Nat, VR ρ (.int .i64 (.ofNat n)) (.int .i64 (.ofNat n)) := fun n => .int _ _
  unfold lenB at h
  split at h
  · rename_i b hu
    cases h
    refine ⟨?_, num _⟩
    rw [hx.string_inv] at ha
    simp [Builtin.len_, hts, ha, run_und hu, goInt]
  · rename_i n e hu
    cases h
    refine ⟨?_, num _⟩
    simp [Builtin.len_, hts, ha, run_und hu, goInt]
  · rename_i arr hu
    split at h
    · rename_i n e hu2
      cases h
      refine ⟨?_, num _⟩
      simp [Builtin.len_, hts, ha, run_und hu, run_und hu2, goInt]
    · cases h
  · rename_i e base n cap hu
    cases h
    refine ⟨?_, num _⟩
    cases base with
    | none => rw [hx.slcNil_inv] at ha; simp [Builtin.len_, hts, ha, run_und hu, goInt]
    | some a => obtain ⟨a', c', he⟩ := hx.slc_some; rw [he] at ha; simp [Builtin.len_, hts, ha, run_und hu, goInt]
  · rename_i k e hu
    cases h
    refine ⟨?_, .int _ _⟩
    rw [hx.mapNil_inv] at ha
    simp [Builtin.len_, hts, ha, run_und hu, goInt]
  · rename_i k e r hu
    split at h
    · rename_i es c hm
      cases h
      obtain ⟨i, hi, he⟩ := hx.map_inv
      obtain ⟨es', m1, m2⟩ := map_obj hr hm hi
      refine ⟨?_, num _⟩
      rw [he] at ha
      have hl : es.length = es'.size := by rw [m2.length]; simp
      simp [Builtin.len_, hts, ha, run_und hu, run_getObj_map m1, goInt, hl]
    · cases h
  · cases h

theorem max2_sim {mx : Bool} {a b a' b' v : Value} (h : max2 mx a b = some v) (ha : VR ρ a a') (hb : VR ρ b b') :
    ∃ v', ((if mx then Builtin.max2 else Builtin.min2) a' b').run P w = .ok v' w ∧ VR ρ v v' := by
  unfold max2 at h
  split at h
  · rename_i k x k' y
    cases h
    rw [ha.int_inv, hb.int_inv]
    cases mx with
    | true =>
      refine ⟨_, rfl, ?_⟩
      simp only [cond_true, ltI_eq]
      by_cases hlt : y > x
      · rw [if_pos hlt, decide_eq_true hlt]; exact .int _ _
      · rw [if_neg hlt, decide_eq_false hlt]; exact .int _ _
    | false =>
      refine ⟨_, rfl, ?_⟩
      simp only [cond_false, ltI_eq]
      by_cases hlt : y < x
      · rw [if_pos hlt, decide_eq_true hlt]; exact .int _ _
      · rw [if_neg hlt, decide_eq_false hlt]; exact .int _ _
  · cases h

theorem maxOf_sim {mx : Bool} : ∀ (l : List Value) (x x' v : Value) (l' : List Value), maxOf mx x l = some v → VR ρ x x' → VRs ρ l l' →
    ∃ v', (l'.foldlM (if mx then Builtin.max2 else Builtin.min2) x').run P w = .ok v' w ∧ VR ρ v v'
  | [], x, x', v, l', h, hx, hl => by
    rw [L2.nil_left hl]
    simp only [maxOf] at h; cases h
    exact ⟨x', rfl, hx⟩
  | y :: l, x, x', v, l', h, hx, hl => by
    obtain ⟨y', m, rfl, h1, h2⟩ := L2.cons_left hl
    simp only [maxOf] at h
    split at h
    · rename_i z hz
      obtain ⟨z', e1, e2⟩ := max2_sim (P := P) (w := w) hz hx h1
      obtain ⟨v', e3, e4⟩ := maxOf_sim l z z' v m h e2 h2
      refine ⟨v', ?_, e4⟩
      simp only [List.foldlM_cons, Sem.run_bind, e1, Result.andThen_ok, e3]
    · cases h

theorem copy_sim (hr : Rel B ro ρ s.heap.get w) {t e : TypeId} {base : Option Addr} {dLen cap : Nat} {d' x x' : Value} {size m : Nat} {l : List Value} {ts : Array TypeId} {ty : TypeId} {args : Array Value}
    (hu : P.underlying t = some (.slice e)) (hsz : szOf P e = some size) (hm : lenOfV x = some m) (hl : firstL s size (Nat.min m dLen) x = some l) (hd : VR ρ (.slice base dLen cap) d') (hx : VR ρ x x')
    (hts : ts[0]? = some t) (ha : args[0]? = some d') (ha1 : args[1]? = some x') :
    (∀ a, base = some a → a.spot = none → ∀ s', stCells ro s a.block a.off l = some s' → ∃ w', (Builtin.copy_ ts ty args).run P w = .ok (goInt (Nat.min m dLen : Nat)) w' ∧ Step B ro ρ s w ρ s' w') ∧
    (base = none → (Builtin.copy_ ts ty args).run P w = .ok (goInt (Nat.min m dLen : Nat)) w) := by
  have hlen := lenOf_sim (P := P) (w := w) hx hm
  obtain ⟨l', g1, g2⟩ := firstL_sim (P := P) hr hx hl hm (Nat.min_le_left _ _)
  have g1 := g1 w rfl
  refine ⟨fun a hb hsp s' hst => ?_, fun hb => ?_⟩
  · subst hb
    obtain ⟨_, i, o', c', hi, he, hs⟩ := hd.slc_inv hsp
    rw [he] at ha
    obtain ⟨ab, ao, asp⟩ := a
    simp only at hi hs hst hsp
    obtain ⟨w', r1, r2⟩ := stCells_sim (P := P) hr hi hst g2
    refine ⟨w', ?_, r2⟩
    have hstore : (storeCells ⟨i.b, o', none⟩ l' 0).run P w = .ok () w' := by
      rcases hs with h | h | h
      · rw [h.1]; exact r1
      · rw [h.2.1]; exact r1
      · have h0 : dLen = 0 := h.2.1
        subst h0
        have : Nat.min m 0 = 0 := by simp
        rw [this] at hl
        have hnil := firstL_zero hl
        subst hnil
        have hnil' := L2.nil_left g2
        subst hnil'
        simp only [storeCells, Sem.run_pure] at r1 ⊢
        exact r1
    simp [Builtin.copy_, hts, ha, ha1, run_und hu, hlen, run_sizeOf' hsz, g1, hstore]
  · subst hb
    rw [hd.slcNil_inv] at ha
    simp [Builtin.copy_, hts, ha, ha1, run_und hu, hlen, run_sizeOf' hsz, g1]

theorem arr_cons {α : Type} {a : Array α} {x : α} {l : List α} (h : a.toList = x :: l) : a[0]? = some x := by
  rw [← Array.getElem?_toList, h]; rfl
theorem arr_cons1 {α : Type} {a : Array α} {x y : α} {l : List α} (h : a.toList = x :: y :: l) : a[1]? = some y := by
  rw [← Array.getElem?_toList, h]; rfl
theorem arr_one {α : Type} {a : Array α} {x : α} (h : a.toList = [x]) : a[1]? = none := by
  rw [← Array.getElem?_toList, h]; rfl

theorem ok_callBuiltin {o : Oper} {c : Call} {b : Builtin} {r : Res} (ho : o.op = .call c) (hc : c.callee = .builtin b) (h : evalOp P ro tm o.op s = some r) : OpOk P B ro tm o s r := by
  intro ρ w ac hr ht hro hfr
  rw [ho] at h; simp only [evalOp, hc] at h
  have hargs := vrs_ops (ac := ac) ht c.args.toList
  have hal : (c.args.map ac.eval).toList = c.args.toList.map ac.eval := by simp
  rw [← hal] at hargs
  obtain ⟨consts, hex⟩ : ∃ consts, execOp ac.eval o = builtin b c.argTypes o.type consts (c.args.map ac.eval) :=
    ⟨_, by simp only [execOp, ho, resolve, hc, invoke]; rfl⟩
  rw [hex]
  generalize c.args.map ac.eval = args at hargs
  generalize c.args.toList.map (opv tm) = aargs at h hargs
  generalize hT : c.argTypes.toList = tl at h
  unfold builtinOf at h
  split at h
  · -- len
    rename_i t tr x xr
    obtain ⟨x', m, hm, h1, h2⟩ := L2.cons_left hargs
    split at h
    · rename_i v hv
      cases h
      obtain ⟨e1, e2⟩ := len_sim (P := P) (ty := o.type) hr hv h1 (arr_cons hT) (arr_cons hm)
      exact .same hr (v' := v) (by simp [builtin, e1]) e2
    · cases h
  · -- append of two
    rename_i t u tr x y xr
    obtain ⟨x', m, hm, h1, h2⟩ := L2.cons_left hargs
    obtain ⟨y', m', hm', h3, h4⟩ := L2.cons_left h2
    subst hm'
    split at h
    · cases h
    · rename_i e d hne hu hd
      obtain ⟨v, s', ρ', w', v', e1, e2, e3, e4⟩ := appendOf_sim (P := P) (ty := o.type) hr hro h h1 h3 hu (arr_cons hT) (fun u' hu' => by
        rw [arr_cons1 hT] at hu'; cases hu'
        exact ⟨d, hd, fun k e => hne k (by rw [e])⟩) hfr
      subst e1
      refine ⟨ρ', w', v', .inl ?_, e3, e4⟩
      have : (Builtin.append_ c.argTypes o.type args).run P w = .ok v' w' := by
        have hq : (Builtin.append_ c.argTypes o.type args) = (Builtin.append_ c.argTypes o.type #[x', y']) := by
          unfold Builtin.append_
          rw [arr_cons hm, arr_cons1 hm]; rfl
        rw [hq]; exact e2
      simp [builtin, this]
    · cases h
  · -- append of one type
    rename_i t x y xr
    obtain ⟨x', m, hm, h1, h2⟩ := L2.cons_left hargs
    obtain ⟨y', m', hm', h3, h4⟩ := L2.cons_left h2
    subst hm'
    split at h
    · rename_i e hu
      obtain ⟨v, s', ρ', w', v', e1, e2, e3, e4⟩ := appendOf_sim (P := P) (ty := o.type) hr hro h h1 h3 hu (arr_cons hT) (fun u' hu' => by
        rw [arr_one hT] at hu'; cases hu') hfr
      subst e1
      refine ⟨ρ', w', v', .inl ?_, e3, e4⟩
      have : (Builtin.append_ c.argTypes o.type args).run P w = .ok v' w' := by
        have hq : (Builtin.append_ c.argTypes o.type args) = (Builtin.append_ c.argTypes o.type #[x', y']) := by
          unfold Builtin.append_
          rw [arr_cons hm, arr_cons1 hm]; rfl
        rw [hq]; exact e2
      simp [builtin, this]
    · cases h
  · -- copy
    rename_i t tr base dLen cap x xr
    obtain ⟨d', m, hm, h1, h2⟩ := L2.cons_left hargs
    obtain ⟨x', m', hm', h3, h4⟩ := L2.cons_left h2
    subst hm'
    split at h
    · rename_i e hu
      split at h
      · rename_i size k hsz hk
        simp only at h
        split at h
        · rename_i l hl
          obtain ⟨q1, q2⟩ := copy_sim (P := P) (ty := o.type) hr hu hsz hk hl h1 h3 (arr_cons hT) (arr_cons hm) (arr_cons1 hm)
          split at h
          · cases h
            refine .same hr (v' := goInt (Nat.min k dLen : Nat)) (by simp [builtin, q2 rfl]) (.int _ _)
          · rename_i a
            split at h
            · cases h
            · rename_i hsp
              split at h
              · rename_i s' hst
                cases h
                obtain ⟨w', r1, r2⟩ := q1 a rfl hsp s' hst
                exact ⟨ρ, w', goInt (Nat.min k dLen : Nat), .inl (by simp [builtin, r1]), r2, .int _ _⟩
              · cases h
        · cases h
      · cases h
    · cases h
  · -- clear
    rename_i t tr x xr
    obtain ⟨x', m, hm, h1, h2⟩ := L2.cons_left hargs
    have ht0 := arr_cons hT
    have ha0 := arr_cons hm
    split at h
    · rename_i u hu
      cases h
      rw [h1.mapNil_inv] at ha0
      refine .same hr (v' := .tuple #[]) ?_ (VR.tuple_of (l := []) (m := []) .nil)
      simp [builtin, Builtin.clear_, ht0, ha0, run_und hu]
    · rename_i u l cp hu
      cases h
      rw [h1.slcNil_inv] at ha0
      refine .same hr (v' := .tuple #[]) ?_ (VR.tuple_of (l := []) (m := []) .nil)
      simp [builtin, Builtin.clear_, ht0, ha0, run_und hu]
    · rename_i u base cp hu hne
      cases h
      refine .same hr (v' := .tuple #[]) ?_ (VR.tuple_of (l := []) (m := []) .nil)
      cases base with
      | none => rw [h1.slcNil_inv] at ha0; simp [builtin, Builtin.clear_, ht0, ha0, run_und ‹P.underlying t = some u›]
      | some a => obtain ⟨a', c', he⟩ := h1.slc_some; rw [he] at ha0; simp [builtin, Builtin.clear_, ht0, ha0, run_und ‹P.underlying t = some u›]
    · rename_i u rr hu
      split at h
      · rename_i es cl hmo
        cases hb : Nat.ble ro rr with
        | false => rw [hb] at h; cases h
        | true =>
          rw [hb] at h
          simp only [cond_true, setObjK_eq] at h
          cases h
          obtain ⟨i, hi, he⟩ := h1.map_inv
          obtain ⟨es', m1, m2⟩ := map_obj hr hmo hi
          have hilt : i.b < w.heap.size := hr.inb _ _ hi
          rw [he] at ha0
          refine ⟨ρ, { w with heap := w.heap.setIfInBounds i.b (.map #[] cl) }, .tuple #[], .inl ?_, Step.turn hr (by simpa using hb) hi (mapOf_some hmo) rfl (by simp) (fun q hq => ?_) rfl rfl rfl ⟨#[], by simp [hilt], .nil⟩, VR.tuple_of (l := []) (m := []) .nil⟩
          · simp [builtin, Builtin.clear_, ht0, ha0, run_und hu, run_getObj_map m1, run_setObj m1 rfl]
          · simp only [Array.getElem?_setIfInBounds]; rw [if_neg (fun e => hq e.symm)]
      · cases h
    · rename_i e a n cp hne hu
      split at h
      · rename_i z hsp hz
        split at h
        · rename_i s' hst
          cases h
          obtain ⟨_, i, o', c', hi, he, hs⟩ := h1.slc_inv hsp
          obtain ⟨zv, z1, z2⟩ := zeroC_run hz
          have hzl := (z2 ρ).length
          have hrep := repeat_rel (z2 ρ) n (n * zv.cells.size) (by rw [hzl]; simp)
          obtain ⟨w', r1, r2⟩ := stCells_sim (P := P) hr hi hst hrep
          rw [he] at ha0
          have hn0 : n ≠ 0 := fun e => hne e
          have hoff : o' = i.r + a.off := by rcases hs with h | h | h <;> omega
          subst hoff
          refine ⟨ρ, w', .tuple #[], .inl ?_, r2, VR.tuple_of (l := []) (m := []) .nil⟩
          have hzc : Builtin.zeroCells zv.cells n = madeCells zv.cells (n * zv.cells.size) := rfl
          simp [builtin, Builtin.clear_, ht0, ha0, run_und ‹P.underlying t = some (.slice e)›, z1, hzc, r1, hn0]
        · cases h
      · cases h
    · cases h
  · -- delete
    rename_i t tr m k xr
    obtain ⟨m', q, hm, h1, h2⟩ := L2.cons_left hargs
    obtain ⟨k', q', hm', h3, h4⟩ := L2.cons_left h2
    subst hm'
    split at h
    · rename_i s' hs
      cases h
      obtain ⟨w', r1, r2⟩ := mapDel_sim (P := P) hr hs h1 h3 o.type c.argTypes (arr_cons hT)
      refine ⟨ρ, w', .tuple #[], .inl ?_, r2, VR.tuple_of (l := []) (m := []) .nil⟩
      have : (Builtin.delete_ c.argTypes o.type args).run P w = .ok (.tuple #[]) w' := by
        have hq : (Builtin.delete_ c.argTypes o.type args) = (Builtin.delete_ c.argTypes o.type #[m', k']) := by
          unfold Builtin.delete_
          rw [arr_cons hm, arr_cons1 hm]; rfl
        rw [hq]; exact r1
      simp [builtin, this]
    · cases h
  · -- max
    rename_i x l
    obtain ⟨x', m, hm, h1, h2⟩ := L2.cons_left hargs
    split at h
    · rename_i v hv
      cases h
      obtain ⟨v', e1, e2⟩ := maxOf_sim (P := P) (w := w) (mx := true) l x x' v m hv h1 h2
      simp only [if_true] at e1
      exact .same hr (v' := v') (by simp [builtin, Builtin.max_, hm, e1]) e2
    · cases h
  · -- min
    rename_i x l
    obtain ⟨x', m, hm, h1, h2⟩ := L2.cons_left hargs
    split at h
    · rename_i v hv
      cases h
      obtain ⟨v', e1, e2⟩ := maxOf_sim (P := P) (w := w) (mx := false) l x x' v m hv h1 h2
      simp only [Bool.false_eq_true, if_false] at e1
      exact .same hr (v' := v') (by simp [builtin, Builtin.min_, hm, e1]) e2
    · cases h
  · -- recover
    cases h
    exact ⟨rfl, rfl⟩
  · -- panic
    rename_i x xr
    obtain ⟨x', m, hm, h1, h2⟩ := L2.cons_left hargs
    split at h
    · rename_i t v
      cases h
      obtain ⟨v', he, hv⟩ := h1.iface_inv
      refine ⟨rfl, .iface t v', ?_, .iface t hv⟩
      have h0 : args.getD 0 .nilIface = .iface t v' := by
        have := arr_cons hm
        rw [he] at this
        simp [Array.getD_eq_getD_getElem?, this]
      simp [builtin, h0, Instr.panic]
    · cases h
  · cases h

/-- Each operation that the evaluator takes, the model takes, to the same end. -/
theorem evalOp_ok {o : Oper} {r : Res} (h : evalOp P ro tm o.op s = some r) : OpOk P B ro tm o s r := by
  cases ho : o.op with
  | move x => exact ok_move ho h
  | assign x => exact ok_assign ho h
  | pick c a b => exact ok_pick ho h
  | alloc e => exact ok_alloc ho h
  | box e x => exact ok_box ho h
  | build t p => exact ok_build ho h
  | buildSlice t l p => exact ok_buildSlice ho h
  | insert t m k x => exact ok_mapUpdate (.inr ho) h
  | load t x => exact ok_load ho h
  | store t x y => exact ok_store ho h
  | nilCheck x => exact ok_nilCheck ho h
  | binOp op t x y u => exact ok_binOp ho h
  | unOp op t x => exact ok_unOp ho h wrapK_eq
  | convert a b x => exact ok_convert ho h
  | makeInterface t x => exact ok_makeInterface ho h
  | makeFunc f a b => exact ok_makeFunc ho h
  | makeMap t x => exact ok_makeMap ho h
  | makeSlice t x y => exact ok_makeSlice ho h
  | slice t x lo hi mx => exact ok_slice ho h
  | fieldAddr t x f => exact ok_fieldAddr ho h
  | field t x f => exact ok_field ho h
  | indexAddr t x y => exact ok_indexAddr ho h
  | index t x y => exact ok_index ho h
  | lookup t x k ok => exact ok_lookup ho h
  | mapUpdate t m k x => exact ok_mapUpdate (.inl ho) h
  | range t x => exact ok_range ho h
  | next x b => exact ok_next ho h
  | entry x => exact ok_entry ho h
  | typeAssert x a b ok => exact ok_typeAssert ho h
  | extract x i => exact ok_extract ho h
  | call c =>
    cases hc : c.callee with
    | value f => exact ok_callValue ho hc h
    | builtin b => exact ok_callBuiltin ho hc h
    | invoke x m => rw [ho] at h; simp [evalOp, hc] at h
  | defer c => exact ok_defer ho h
  | panic x => exact ok_panic ho h
  | _ => rw [ho] at h; simp [evalOp] at h

end
end Go.Ab

namespace Go.Ab

section
variable {P : Program} {B ro : Nat} {ρ : Ren} {s : St} {w : World} {tm : T Value} {ac : Act}

/-! ### Frames, endings -/

theorem DefR.mono {ρ ρ' : Ren} (hl : ρ.le ρ') {d d' : Deferred} (h : DefR ρ d d') : DefR ρ' d d' := by
  obtain ⟨⟨fn, c, c', h1, h2, h3⟩, h4⟩ := h
  exact ⟨⟨fn, c, c', h1, h2, VRs.mono hl h3⟩, VRs.mono hl h4⟩

structure ActR (ρ : Ren) (nt : Nat) (a : AAct) (ac : Act) : Prop where
  size : ac.tmps.size = nt
  tm : TmR ρ a.tm ac.tmps
  defers : L2 (DefR ρ) a.defers ac.defers

theorem ActR.mono {ρ ρ' : Ren} (hl : ρ.le ρ') {nt : Nat} {a : AAct} {ac : Act} (h : ActR ρ nt a ac) : ActR ρ' nt a ac :=
  ⟨h.size, fun t => (h.tm t).mono hl, h.defers.mono fun _ _ => DefR.mono hl⟩

def PanR (ρ : Ren) (p p' : PanicEntry) : Prop := VR ρ p.v p'.v ∧ p.recovered = p'.recovered ∧ p.goexit = p'.goexit
abbrev ChR (ρ : Ren) : List PanicEntry → List PanicEntry → Prop := L2 (PanR ρ)

theorem ChR.mono {ρ ρ' : Ren} (hl : ρ.le ρ') {c c' : List PanicEntry} (h : ChR ρ c c') : ChR ρ' c c' := L2.mono (fun _ _ h => ⟨h.1.mono hl, h.2⟩) h

def Ret.st : Ret → St
  | .ok _ s => s
  | .pan _ s => s

def RetR (ρ : Ren) : Ret → Ending → Prop
  | .ok v _, .returned v' => VR ρ v v'
  | .pan ch _, .panicked ch' => ChR ρ ch ch'
  | _, _ => False

def ExR (ρ : Ren) : Ex → Exit → Prop
  | .normal, .normal => True
  | .exit i, .exit j => i = j
  | .ret, .ret => True
  | .panic ch, .panic ch' => ChR ρ ch ch'
  | _, _ => False

def Fresh (ρ : Ren) (s s' : St) : Prop := ∀ ν, s.next ≤ ν → ν < s'.next → ρ ν = none

theorem Fresh.left {s1 s' : St} (h : Fresh ρ s s') (h1 : s1.next ≤ s'.next) : Fresh ρ s s1 := fun ν a b => h ν a (by omega)
theorem Fresh.right {s1 s' : St} {ρ1 : Ren} {w1 : World} (h : Fresh ρ s s') (hs : Step B ro ρ s w ρ1 s1 w1) : Fresh ρ1 s1 s' := fun ν a b => by
  cases e : ρ1 ν with
  | none => rfl
  | some i =>
    cases e0 : ρ ν with
    | none => have := hs.dom ν i e0 e; omega
    | some j => rw [h ν (Nat.le_trans hs.next a) b] at e0; cases e0

/-- What is handed in for calls is sound. -/
def CallS (P : Program) (B ro : Nat) (callF : CallE) : Prop :=
  ∀ f args s r, callF f args s = some r → ∀ (ρ : Ren) (w : World) (args' : Array Value), Rel B ro ρ s.heap.get w → ro ≤ s.next → Wf s → VRs ρ args args'.toList → Fresh ρ s r.st →
    (∃ fn, P.funcs[f]? = some fn ∧ fn.name ≠ "runtime.NumGoroutine" ∧ fn.body.isSome = true) ∧
    Calls P f args' w fun e w' => ∃ ρ', Step B ro ρ s w ρ' r.st w' ∧ RetR ρ' r e

theorem run_callFunc {f : FuncId} {fn : Func} {args : Array Value} (h1 : P.funcs[f]? = some fn) (h2 : fn.name ≠ "runtime.NumGoroutine") (h3 : fn.body.isSome = true) :
    (callFunc f args).run P w = .ok (.enter f args) w := by
  have h4 : fn.body.isNone = false := by cases hb : fn.body with | none => rw [hb] at h3; cases h3 | some c => rfl
  have h5 : (fn.name == "runtime.NumGoroutine") = false := by simpa using h2
  simp only [callFunc, Sem.run_bind, run_program, Result.andThen_ok, h1, h5, Bool.false_eq_true, if_false, h4]
  rfl

theorem tmR_set {nt : Nat} {tmps : Array Value} (h : TmR ρ tm tmps) (hs : tmps.size = nt) {d : Nat} (hd : d < nt) {v v' : Value} (hv : VR ρ v v') : TmR ρ (tm.set d v) (tmps.setIfInBounds d v') := by
  intro t
  have := h t
  unfold tmv at this ⊢
  rw [T.get_set]
  rw [Array.getD_eq_getD_getElem?, Array.getElem?_setIfInBounds]
  by_cases ht : t = d
  · subst ht
    rw [if_pos rfl, if_pos rfl, if_pos (by omega)]
    exact hv
  · rw [if_neg ht, if_neg (fun e => ht e.symm)]
    rw [Array.getD_eq_getD_getElem?] at this
    exact this

theorem putK_sim {R : Type} {nt : Nat} {a : AAct} {dst : Option Tmp} {v v' : Value} {k : AAct → Option R} {r : R} (h : putK nt a dst v k = some r) (ha : ActR ρ nt a ac) (hv : VR ρ v v') :
    ∃ a', k a' = some r ∧ ActR ρ nt a' (ac.put dst v') := by
  unfold putK at h
  split at h
  · exact ⟨a, h, ha⟩
  · rename_i d
    cases hb : Nat.blt d nt with
    | false => rw [hb] at h; cases h
    | true =>
      rw [hb] at h
      simp only [cond_true, T.setK_set] at h
      exact ⟨_, h, by simpa [Act.put] using ha.size, tmR_set ha.tm ha.size (Nat.blt_eq.mp hb) hv, ha.defers⟩

theorem VR.not_bool {v v' : Value} (h : VR ρ v v') (h1 : ∀ b, v ≠ .bool b) (h2 : ∀ c, v ≠ .chan c) (b : Bool) : v' ≠ .bool b := by
  cases h <;> first
    | (intro e; cases e; done)
    | exact absurd rfl (h1 _)
    | exact absurd rfl (h2 _)

theorem wantedA_sim {ops : Array Oper} {o : Oper} {b : Bool} (ht : TmR ρ tm ac.tmps) (h : wantedA ops.toList tm o = some b) : Region.wanted o (yielded ops ac.tmps) = b := by
  unfold wantedA at h
  unfold Region.wanted
  split at h
  · rename_i hg; cases h; rw [hg]
  · rename_i j want hg
    rw [hg]
    simp only
    rw [nth_eq, Array.getElem?_toList] at h
    split at h
    · rename_i oj hoj
      split at h
      · rename_i d hd
        have hv := ht d
        unfold tmv at hv
        have hy : yielded ops ac.tmps j = match ac.tmps[d]? with | some (.bool b) => some b | _ => none := by
          unfold yielded
          rw [hoj]
          simp only [Option.bind_some, hd]
          rfl
        rw [hy]
        split at h
        · rename_i b0 hb0
          cases h
          rw [hb0] at hv
          have := hv.bool_inv
          rw [Array.getD_eq_getD_getElem?] at this
          cases hq : ac.tmps[d]? with
          | none => rw [hq] at this; simp [undef] at this
          | some q => rw [hq] at this; simp at this; subst this; simp
        · cases h
        · rename_i hnb hnc
          cases h
          have hnot : ∀ b, ac.tmps.getD d undef ≠ .bool b := by
            intro b
            cases hq : tm.get d with
            | none => rw [hq] at hv; obtain ⟨f', e, _⟩ := VR.tuple_inv hv; rw [e]; intro e2; cases e2
            | some v =>
              rw [hq] at hv
              exact hv.not_bool (fun b e => hnb b (by rw [hq]; exact congrArg some e)) (fun c e => hnc c (by rw [hq]; exact congrArg some e)) b
          cases hq : ac.tmps[d]? with
          | none => simp
          | some q =>
            have hq2 : ac.tmps.getD d undef = q := by simp [Array.getD_eq_getD_getElem?, hq]
            rw [hq2] at hnot
            cases q <;> first
              | (simp; done)
              | exact absurd rfl (hnot _)
      · cases h
    · cases h

/-- One operation, calls taken in: what the model's rule asks. -/
theorem stepOp_sim {callF : CallE} (hcs : CallS P B ro callF) {o : Oper} {x : Sum Ret (Deferred × St)} (h : stepOp P ro callF tm o.op s = some x) (hr : Rel B ro ρ s.heap.get w) (ht : TmR ρ tm ac.tmps)
    (hro : ro ≤ s.next) (hwf : Wf s) {next : Act → World → Prop} {Q : Exit → Act → World → Prop} :
    (∀ v s', x = .inl (.ok v s') → s.next ≤ s'.next ∧ (Fresh ρ s s' → (∀ ρ' w' v', Step B ro ρ s w ρ' s' w' → VR ρ' v v' → next (ac.put o.dst v') w') → o.wp P ac w next Q)) ∧
    (∀ ch s', x = .inl (.pan ch s') → s.next ≤ s'.next ∧ (Fresh ρ s s' → (∀ ρ' w' ch', Step B ro ρ s w ρ' s' w' → ChR ρ' ch ch' → Q (.panic ch') ac w') → o.wp P ac w next Q)) ∧
    (∀ d s', x = .inr (d, s') → s' = s ∧ ((∀ d', DefR ρ d d' → next ({ ac with defers := d' :: ac.defers }.put o.dst undef) w) → o.wp P ac w next Q)) := by
  unfold stepOp at h
  split at h
  · cases h
  · rename_i v s1 hv
    have hok := evalOp_ok (B := B) hv
    cases hb : Nat.ble s.next s1.next with
    | false => rw [hb] at h; cases h
    | true =>
      rw [hb] at h; cases h
      have hle : s.next ≤ s1.next := by simpa using hb
      refine ⟨fun v' s' e => ?_, (fun ch s' e => by cases e), fun d s' e => by cases e⟩
      cases e
      refine ⟨hle, fun hf hn => ?_⟩
      obtain ⟨ρ', w', v', h1, h2, h3⟩ := hok ρ w ac hr ht hro hf
      unfold Oper.wp
      rcases h1 with h1 | ⟨h1, rfl⟩
      · rw [h1]; exact hn ρ' w' v' h2 h3
      · rw [h1]; exact hn ρ' w' undef h2 h3
  · rename_i d s1 hv
    have hok := evalOp_ok (B := B) hv
    cases h
    refine ⟨(fun v s' e => by cases e), (fun ch s' e => by cases e), fun d' s' e => ?_⟩
    cases e
    refine ⟨rfl, fun hn => ?_⟩
    obtain ⟨_, d', h1, h2⟩ := hok ρ w ac hr ht hro (fun ν a b => by simp only [Res.next] at b; omega)
    unfold Oper.wp
    rw [h1]; exact hn d' h2
  · cases h
  · rename_i v s1 hv
    have hok := evalOp_ok (B := B) hv
    cases h
    refine ⟨(fun v s' e => by cases e), fun ch s' e => ?_, (fun d s' e => by cases e)⟩
    cases e
    refine ⟨Nat.le_refl _, fun hf hn => ?_⟩
    obtain ⟨_, v', h1, h2⟩ := hok ρ w ac hr ht hro (fun ν a b => by simp only [Res.next] at b; omega)
    unfold Oper.wp
    rw [h1]; exact hn ρ w _ (Step.refl hr) (.cons ⟨h2, rfl, rfl⟩ .nil)
  · rename_i f args s1 hv
    have hok := evalOp_ok (B := B) hv
    obtain ⟨_, args', h1, h2⟩ := hok ρ w ac hr ht hro (fun ν a b => by simp only [Res.next] at b; omega)
    split at h
    · rename_i v s' hc
      cases hb : Nat.ble s.next s'.next with
      | false => rw [hb] at h; cases h
      | true =>
        rw [hb] at h; cases h
        have hle : s.next ≤ s'.next := by simpa using hb
        refine ⟨fun v' s'' e => ?_, (fun ch s' e => by cases e), fun d s' e => by cases e⟩
        cases e
        refine ⟨hle, fun hf hn => ?_⟩
        obtain ⟨⟨fn, f1, f2, f3⟩, hcalls⟩ := hcs f args s _ hc ρ w args' hr hro hwf h2 hf
        unfold Oper.wp
        rw [h1, run_callFunc f1 f2 f3, Oper.upon_enter]
        refine hcalls.mono fun e w' ⟨ρ', q1, q2⟩ => ?_
        cases e with
        | returned u => exact hn ρ' w' u q1 q2
        | panicked c => exact q2.elim
        | outgrown => exact q2.elim
    · rename_i ch s' hc
      cases hb : Nat.ble s.next s'.next with
      | false => rw [hb] at h; cases h
      | true =>
        rw [hb] at h; cases h
        have hle : s.next ≤ s'.next := by simpa using hb
        refine ⟨(fun v s' e => by cases e), fun ch' s'' e => ?_, fun d s' e => by cases e⟩
        cases e
        refine ⟨hle, fun hf hn => ?_⟩
        obtain ⟨⟨fn, f1, f2, f3⟩, hcalls⟩ := hcs f args s _ hc ρ w args' hr hro hwf h2 hf
        unfold Oper.wp
        rw [h1, run_callFunc f1 f2 f3, Oper.upon_enter]
        refine hcalls.mono fun e w' ⟨ρ', q1, q2⟩ => ?_
        cases e with
        | returned u => exact q2.elim
        | panicked c => exact hn ρ' w' c q1 q2
        | outgrown => exact q2.elim
    · cases h

theorem stepOp_next {callF : CallE} {o : Op} {x : Sum Ret (Deferred × St)} (h : stepOp P ro callF tm o s = some x) :
    match x with | .inl r => s.next ≤ r.st.next | .inr (_, s') => s' = s := by
  unfold stepOp at h
  split at h
  · cases h
  · rename_i v s1 hv
    cases hb : Nat.ble s.next s1.next with
    | false => rw [hb] at h; cases h
    | true => rw [hb] at h; cases h; exact Nat.le_of_ble_eq_true hb
  · cases h; rfl
  · cases h
  · cases h; exact Nat.le_refl _
  · split at h
    · rename_i v s' hc
      cases hb : Nat.ble s.next s'.next with
      | false => rw [hb] at h; cases h
      | true => rw [hb] at h; cases h; exact Nat.le_of_ble_eq_true hb
    · rename_i v s' hc
      cases hb : Nat.ble s.next s'.next with
      | false => rw [hb] at h; cases h
      | true => rw [hb] at h; cases h; exact Nat.le_of_ble_eq_true hb
    · cases h

theorem putK_some {R : Type} {nt : Nat} {a : AAct} {dst : Option Tmp} {v : Value} {k : AAct → Option R} {r : R} (h : putK nt a dst v k = some r) : ∃ a', k a' = some r := by
  unfold putK at h
  split at h
  · exact ⟨a, h⟩
  · rename_i d
    cases hb : Nat.blt d nt with
    | false => rw [hb] at h; cases h
    | true => rw [hb] at h; simp only [cond_true, T.setK_set] at h; exact ⟨_, h⟩

theorem evalOps_next {callF : CallE} {nt : Nat} {all : List Oper} : ∀ (l : List Oper) (a : AAct) (s : St) (out : Out), evalOps P ro callF nt all l a s = some out → s.next ≤ out.s.next
  | [], a, s, out, h => by simp only [evalOps] at h; cases h; exact Nat.le_refl _
  | o :: l, a, s, out, h => by
    simp only [evalOps] at h
    split at h
    · cases h
    · split at h
      · cases h
      · rename_i v s' hs
        have := stepOp_next hs
        obtain ⟨a', ha'⟩ := putK_some h
        exact Nat.le_trans this (evalOps_next l a' s' out ha')
      · rename_i ch s' hs
        cases h
        exact stepOp_next hs
      · rename_i d s' hs
        have := stepOp_next hs
        simp only at this
        subst this
        obtain ⟨a', ha'⟩ := putK_some h
        exact evalOps_next l a' _ out ha'
    · obtain ⟨a', ha'⟩ := putK_some h
      exact evalOps_next l a' _ out ha'

theorem evalOps_sim {callF : CallE} (hcs : CallS P B ro callF) {ops : Array Oper} {nt : Nat} {Q : Exit → Act → World → Prop} : ∀ (l : List Oper) (i : Nat) (a : AAct) (s : St) (out : Out), ops.toList.drop i = l →
    evalOps P ro callF nt ops.toList l a s = some out → ∀ (ρ : Ren) (w : World) (ac : Act), Rel B ro ρ s.heap.get w → ActR ρ nt a ac → ro ≤ s.next → Wf s → Fresh ρ s out.s →
    (∀ ρ' w' ac' e', Step B ro ρ s w ρ' out.s w' → ActR ρ' nt out.a ac' → ExR ρ' out.e e' → Q e' ac' w') → wpOps P ops Q (List.range' i l.length) ac w
  | [], i, a, s, out, hl, h, ρ, w, ac, hr, ha, hro, hwf, hf, hQ => by
    simp only [evalOps] at h; cases h
    exact hQ ρ w ac .normal (Step.refl hr) ha trivial
  | o :: l, i, a, s, out, hl, h, ρ, w, ac, hr, ha, hro, hwf, hf, hQ => by
    have hoi : ops[i]? = some o := by
      have : (ops.toList.drop i)[0]? = some o := by rw [hl]; rfl
      rw [List.getElem?_drop, Array.getElem?_toList] at this; exact this
    have hl' : ops.toList.drop (i + 1) = l := by rw [← List.drop_drop, hl]; rfl
    simp only [List.length_cons, List.range'_succ, wpOps, hoi]
    simp only [evalOps] at h
    split at h
    · cases h
    · rename_i hw
      rw [wantedA_sim ha.tm hw]
      simp only [if_true]
      left
      split at h
      · cases h
      · rename_i v s' hs
        obtain ⟨q, _, _⟩ := stepOp_sim (Q := Q) (next := wpOps P ops Q (List.range' (i + 1) l.length)) hcs hs hr ha.tm hro hwf
        obtain ⟨q1, q2⟩ := q v s' rfl
        obtain ⟨a0, ha0⟩ := putK_some h
        have hmono := evalOps_next l a0 s' out ha0
        refine q2 (hf.left hmono) fun ρ' w' v' hst hv => ?_
        obtain ⟨a', ha1, ha2⟩ := putK_sim h (ha.mono hst.le) hv
        refine evalOps_sim hcs l (i + 1) a' s' out hl' ha1 ρ' w' _ hst.rel ha2 (Nat.le_trans hro hst.next) (hst.wf hwf) (hf.right hst) fun ρ2 w2 ac2 e2 h1 h2 h3 => ?_
        exact hQ ρ2 w2 ac2 e2 (hst.trans h1) h2 h3
      · rename_i ch s' hs
        cases h
        obtain ⟨_, q, _⟩ := stepOp_sim (Q := Q) (next := wpOps P ops Q (List.range' (i + 1) l.length)) hcs hs hr ha.tm hro hwf
        obtain ⟨q1, q2⟩ := q ch s' rfl
        exact q2 hf fun ρ' w' ch' hst hch => hQ ρ' w' ac (.panic ch') hst (ha.mono hst.le) hch
      · rename_i d s' hs
        obtain ⟨_, _, q⟩ := stepOp_sim (Q := Q) (next := wpOps P ops Q (List.range' (i + 1) l.length)) hcs hs hr ha.tm hro hwf
        obtain ⟨q1, q2⟩ := q d s' rfl
        subst q1
        refine q2 fun d' hd => ?_
        obtain ⟨a', ha1, ha2⟩ := putK_sim (ac := { ac with defers := d' :: ac.defers }) h ⟨ha.size, ha.tm, .cons hd ha.defers⟩ (VR.und ρ)
        exact evalOps_sim hcs l (i + 1) a' _ out hl' ha1 ρ w _ hr ha2 hro hwf hf hQ
    · rename_i hw
      rw [wantedA_sim ha.tm hw]
      simp only [Bool.false_eq_true, if_false]
      obtain ⟨a', ha1, ha2⟩ := putK_sim h ha (VR.und ρ)
      exact evalOps_sim hcs l (i + 1) a' _ out hl' ha1 ρ w _ hr ha2 hro hwf hf hQ

end
end Go.Ab

namespace Go.Ab

/-! ### Orders of a drawn region -/

def Preds (ops : Array Oper) (i j : Nat) : Prop := ∃ o e, ops[i]? = some o ∧ e ∈ o.after.toList ∧ Region.binds .any e = true ∧ e.on = j

/-- An order that may be drawn: each operation once, behind those that it waits for. -/
structure Good (ops : Array Oper) (l : List Nat) : Prop where
  lt : ∀ i ∈ l, i < ops.size
  all : ∀ i, i < ops.size → i ∈ l
  nodup : l.Nodup
  pred : ∀ k i j, l[k]? = some i → Preds ops i j → j < ops.size → j ∈ l.take k

theorem binds_any {m : Region.Mode} {e : Edge} (h : Region.binds .any e = true) : Region.binds m e = true := by
  unfold Region.binds at *
  cases hg : e.ground <;> simp_all

theorem ready_mem {md : Region.Mode} {ops : Array Oper} {listed : Array Bool} {i : Nat} (h : i ∈ Region.ready md ops listed) :
    i < ops.size ∧ listed.getD i true = false ∧ ∀ o, ops[i]? = some o → ∀ e ∈ o.after.toList, Region.binds md e = true → listed.getD e.on false = true := by
  simp only [Region.ready, List.mem_filter, List.mem_range, Bool.and_eq_true, Bool.not_eq_true'] at h
  obtain ⟨h1, h2, h3⟩ := h
  refine ⟨h1, h2, fun o ho e he hb => ?_⟩
  rw [ho] at h3
  simp only [Option.map_some, Option.getD_some, Array.all_eq_true] at h3
  obtain ⟨k, hk⟩ := List.mem_iff_getElem?.1 he
  have hk' : k < o.after.size := by
    have := (List.getElem?_eq_some_iff.1 hk).1
    simpa using this
  have := h3 k hk'
  have he2 : o.after[k] = e := by
    have := (List.getElem?_eq_some_iff.1 hk).2
    simpa using this
  rw [he2, hb] at this
  simpa using this

/-- The greedy order, from some of the operations on. -/
structure Part (md : Region.Mode) (ops : Array Oper) (listed : Array Bool) (l : List Nat) : Prop where
  lt : ∀ i ∈ l, i < ops.size ∧ listed.getD i true = false
  nodup : l.Nodup
  pred : ∀ k i, l[k]? = some i → ∀ o, ops[i]? = some o → ∀ e ∈ o.after.toList, Region.binds md e = true → listed.getD e.on false = true ∨ e.on ∈ l.take k

theorem getD_set {listed : Array Bool} {i j : Nat} {d : Bool} (hi : i < listed.size) : (listed.setIfInBounds i true).getD j d = if j = i then true else listed.getD j d := by
  simp only [Array.getD_eq_getD_getElem?, Array.getElem?_setIfInBounds]
  by_cases h : j = i
  · subst h; simp [hi]
  · rw [if_neg h, if_neg (fun e => h e.symm)]

theorem go_part {md : Region.Mode} {ops : Array Oper} : ∀ (fuel t : Nat) (listed : Array Bool), listed.size = ops.size → Part md ops listed (Region.linearise.go md ops fuel t listed [])
  | 0, t, listed, hs => ⟨fun i h => by simp [Region.linearise.go] at h, by simp [Region.linearise.go], fun k i h => by simp [Region.linearise.go] at h⟩
  | fuel + 1, t, listed, hs => by
    simp only [Region.linearise.go]
    change Part md ops listed (match (Region.ready md ops listed)[t % (Region.ready md ops listed).length]? with
      | some i => Region.linearise.go md ops fuel (t / (Region.ready md ops listed).length) (listed.setIfInBounds i true) [i]
      | none => [].reverse)
    cases hi : (Region.ready md ops listed)[t % (Region.ready md ops listed).length]? with
    | none => exact ⟨fun i h => by simp at h, by simp, fun k i h => by simp at h⟩
    | some i =>
      simp only []
      rw [linearise_go_acc, List.reverse_singleton, List.singleton_append]
      have hmem := ready_mem (List.mem_of_getElem? hi)
      have hil : i < listed.size := by omega
      have ih := go_part (md := md) (ops := ops) fuel (t / (Region.ready md ops listed).length) (listed.setIfInBounds i true) (by simpa using hs)
      refine ⟨?_, ?_, ?_⟩
      · intro j hj
        rcases List.mem_cons.1 hj with rfl | hj
        · exact ⟨hmem.1, hmem.2.1⟩
        · obtain ⟨h1, h2⟩ := ih.lt j hj
          rw [getD_set hil] at h2
          by_cases e : j = i
          · rw [if_pos e] at h2; cases h2
          · rw [if_neg e] at h2; exact ⟨h1, h2⟩
      · refine List.nodup_cons.2 ⟨fun hin => ?_, ih.nodup⟩
        obtain ⟨_, h2⟩ := ih.lt i hin
        rw [getD_set hil, if_pos rfl] at h2; cases h2
      · intro k j hk o ho e he hb
        cases k with
        | zero => simp at hk; subst hk; exact .inl (hmem.2.2 o ho e he hb)
        | succ k =>
          simp at hk
          rcases ih.pred k j hk o ho e he hb with h | h
          · rw [getD_set hil] at h
            by_cases e2 : e.on = i
            · right; rw [e2]; simp
            · rw [if_neg e2] at h; exact .inl h
          · right; simp [h]

theorem count_set : ∀ (l : List Bool) (j : Nat), l[j]? = some false → ((l.set j true).filter (fun b => !b)).length + 1 = (l.filter (fun b => !b)).length
  | [], j, h => by simp at h
  | b :: l, 0, h => by simp at h; subst h; simp
  | b :: l, j + 1, h => by
    have := count_set l j (by simpa using h)
    cases b
    · simp only [List.set_cons_succ, List.filter_cons, Bool.not_false, if_true, List.length_cons]; omega
    · simp only [List.set_cons_succ, List.filter_cons, Bool.not_true, Bool.false_eq_true, if_false]; omega

/-- If some operation is not listed and one is always ready, the greedy order comes to all. -/
theorem go_all {md : Region.Mode} {ops : Array Oper} (hready : ∀ listed : Array Bool, listed.size = ops.size → (∃ i, i < ops.size ∧ listed.getD i true = false) → Region.ready md ops listed ≠ []) :
    ∀ (fuel t : Nat) (listed : Array Bool), listed.size = ops.size → (listed.toList.filter (fun b => !b)).length ≤ fuel → ∀ i, i < ops.size → listed.getD i true = false → i ∈ Region.linearise.go md ops fuel t listed []
  | 0, t, listed, hs, hf, i, hi, hl => by
    have hi' : i < listed.size := by omega
    have hmem : false ∈ listed.toList.filter (fun b => !b) := by
      simp only [List.mem_filter, Bool.not_false, and_true]
      have : listed.toList[i]? = some false := by
        rw [Array.getElem?_toList]
        simp only [Array.getD_eq_getD_getElem?] at hl
        rw [Array.getElem?_eq_getElem hi'] at hl ⊢
        simpa using hl
      exact List.mem_of_getElem? this
    have := List.length_pos_of_mem hmem
    omega
  | fuel + 1, t, listed, hs, hf, i, hi, hl => by
    simp only [Region.linearise.go]
    change i ∈ (match (Region.ready md ops listed)[t % (Region.ready md ops listed).length]? with
      | some i => Region.linearise.go md ops fuel (t / (Region.ready md ops listed).length) (listed.setIfInBounds i true) [i]
      | none => [].reverse)
    have hne := hready listed hs ⟨i, hi, hl⟩
    have hlen : 0 < (Region.ready md ops listed).length := by
      cases h : Region.ready md ops listed with
      | nil => exact absurd h hne
      | cons a l => simp
    cases hj : (Region.ready md ops listed)[t % (Region.ready md ops listed).length]? with
    | none =>
      have := Nat.mod_lt t hlen
      rw [List.getElem?_eq_getElem this] at hj; cases hj
    | some j =>
      simp only []
      rw [linearise_go_acc, List.reverse_singleton, List.singleton_append]
      have hmem := ready_mem (List.mem_of_getElem? hj)
      have hjl : j < listed.size := by omega
      by_cases e : i = j
      · subst e; simp
      · refine List.mem_cons_of_mem _ (go_all hready fuel _ (listed.setIfInBounds j true) (by simpa using hs) ?_ i hi (by rw [getD_set hjl, if_neg e]; exact hl))
        have hfalse : listed.toList[j]? = some false := by
          rw [Array.getElem?_toList]
          have := hmem.2.1
          simp only [Array.getD_eq_getD_getElem?] at this
          rw [Array.getElem?_eq_getElem hjl] at this ⊢
          simpa using this
        have := count_set listed.toList j hfalse
        have e2 : (listed.setIfInBounds j true).toList = listed.toList.set j true := by simp
        rw [e2]; omega


theorem getD_replicate_false {n j : Nat} : (Array.replicate n false).getD j false = false := by
  simp only [Array.getD_eq_getD_getElem?, Array.getElem?_replicate]
  split <;> rfl

theorem good_of {md : Region.Mode} {ops : Array Oper} (hready : ∀ listed : Array Bool, listed.size = ops.size → (∃ i, i < ops.size ∧ listed.getD i true = false) → Region.ready md ops listed ≠ []) (t : Nat) :
    Good ops (Region.linearise md ops t) := by
  have hp : Part md ops (Array.replicate ops.size false) (Region.linearise md ops t) := go_part ops.size t _ (by simp)
  refine ⟨fun i hi => (hp.lt i hi).1, fun i hi => ?_, hp.nodup, fun k i j hk ⟨o, e, ho, he, hb, hj⟩ hlt => ?_⟩
  · refine go_all hready ops.size t _ (by simp) ?_ i hi ?_
    · refine Nat.le_trans (List.length_filter_le _ _) (by simp)
    · simp [Array.getD_eq_getD_getElem?, hi]
  · subst hj
    rcases hp.pred k i hk o ho e he (binds_any hb) with h | h
    · rw [getD_replicate_false] at h; cases h
    · exact h

theorem mem_ready {md : Region.Mode} {ops : Array Oper} {listed : Array Bool} {i : Nat} {o : Oper} (ho : ops[i]? = some o) (h1 : listed.getD i true = false)
    (h2 : ∀ e ∈ o.after.toList, Region.binds md e = true → listed.getD e.on false = true) : i ∈ Region.ready md ops listed := by
  have hi : i < ops.size := (Array.getElem?_eq_some_iff.1 ho).1
  simp only [Region.ready, List.mem_filter, List.mem_range, Bool.and_eq_true, Bool.not_eq_true']
  refine ⟨hi, h1, ?_⟩
  rw [ho]
  simp only [Option.map_some, Option.getD_some, Array.all_eq_true]
  intro k hk
  cases hb : Region.binds md o.after[k] with
  | false => rfl
  | true => simpa using h2 _ (by simp [Array.mem_toList_iff]) hb

theorem listed_of {listed : Array Bool} {i : Nat} (hi : i < listed.size) (h : ¬listed.getD i true = false) : listed.getD i false = true := by
  simp only [Array.getD_eq_getD_getElem?] at *
  rw [Array.getElem?_eq_getElem hi] at *
  simpa using h

theorem pool_mem {ops : Array Oper} {i : Nat} {o : Oper} : (i, o) ∈ poolOf ops ↔ ops[i]? = some o := by
  simp only [poolOf, List.mem_map, Prod.mk.injEq, Prod.exists, List.mem_zipIdx_iff_getElem?]
  constructor
  · rintro ⟨a, b, h, rfl, rfl⟩; simpa using h
  · intro h; exact ⟨o, i, by simpa using h, rfl, rfl⟩

theorem lowerIn_spec {md : Region.Mode} {ops : Array Oper} (h : lowerIn md (poolOf ops) = true) {i : Nat} {o : Oper} (ho : ops[i]? = some o) {e : Edge} (he : e ∈ o.after.toList) (hb : Region.binds md e = true) :
    e.on < i := by
  simp only [lowerIn, List.all_eq_true] at h
  have := h (i, o) (pool_mem.2 ho)
  simp only at this
  have := this e he
  rw [hb] at this
  simpa using this

theorem ready_lower {md : Region.Mode} {ops : Array Oper} (hl : lowerIn md (poolOf ops) = true) (listed : Array Bool) (hs : listed.size = ops.size) (hx : ∃ i, i < ops.size ∧ listed.getD i true = false) :
    Region.ready md ops listed ≠ [] := by
  have key : ∀ n i, i < n → i < ops.size → listed.getD i true = false → ∃ j, j ∈ Region.ready md ops listed := by
    intro n
    induction n with
    | zero => intro i hi; omega
    | succ n ih =>
      intro i hi hsz hf
      have ho : ops[i]? = some ops[i] := Array.getElem?_eq_getElem hsz
      by_cases hall : ∀ e ∈ ops[i].after.toList, Region.binds md e = true → listed.getD e.on false = true
      · exact ⟨i, mem_ready ho hf hall⟩
      · have : ∃ e, e ∈ ops[i].after.toList ∧ Region.binds md e = true ∧ ¬listed.getD e.on false = true := by
          apply Classical.byContradiction
          intro hn
          exact hall fun e he hb => Classical.byContradiction fun hc => hn ⟨e, he, hb, hc⟩
        obtain ⟨e, he, hb, hc⟩ := this
        have hlt := lowerIn_spec hl ho he hb
        refine ih e.on (by omega) (by omega) ?_
        apply Classical.byContradiction
        intro hh
        exact hc (listed_of (by omega) hh)
  obtain ⟨i, hi, hf⟩ := hx
  obtain ⟨j, hj⟩ := key (i + 1) i (by omega) hi hf
  exact List.ne_nil_of_mem hj

theorem hasAll_spec {n : Nat} {l : List Nat} (h : hasAll n l = true) {i : Nat} (hi : i < n) : i ∈ l := by
  simp only [hasAll, List.all_eq_true, List.any_eq_true] at h
  obtain ⟨j, hj, he⟩ := h i (List.mem_range.2 hi)
  have := Nat.eq_of_beq_eq_true he
  exact this ▸ hj

theorem ready_full {md : Region.Mode} {ops : Array Oper} (hl : hasAll ops.size (Region.linearise md ops 0) = true) (listed : Array Bool) (hs : listed.size = ops.size) (hx : ∃ i, i < ops.size ∧ listed.getD i true = false) :
    Region.ready md ops listed ≠ [] := by
  have hp : Part md ops (Array.replicate ops.size false) (Region.linearise md ops 0) := go_part ops.size 0 _ (by simp)
  obtain ⟨i, hi, hf⟩ := hx
  obtain ⟨k, hk⟩ := List.getElem?_of_mem (hasAll_spec hl hi)
  have key : ∀ (n k i : Nat), k < n → (Region.linearise md ops 0)[k]? = some i → listed.getD i true = false → ∃ j, j ∈ Region.ready md ops listed := by
    intro n
    induction n with
    | zero => intro k i h; omega
    | succ n ih =>
      intro k i hkn hk hf
      have hsz := (hp.lt i (List.mem_of_getElem? hk)).1
      have ho : ops[i]? = some ops[i] := Array.getElem?_eq_getElem hsz
      by_cases hall : ∀ e ∈ ops[i].after.toList, Region.binds md e = true → listed.getD e.on false = true
      · exact ⟨i, mem_ready ho hf hall⟩
      · have : ∃ e, e ∈ ops[i].after.toList ∧ Region.binds md e = true ∧ ¬listed.getD e.on false = true := by
          apply Classical.byContradiction
          intro hn
          exact hall fun e he hb => Classical.byContradiction fun hc => hn ⟨e, he, hb, hc⟩
        obtain ⟨e, he, hb, hc⟩ := this
        rcases hp.pred k i hk _ ho e he hb with h | h
        · rw [getD_replicate_false] at h; cases h
        · obtain ⟨k', hk'⟩ := List.getElem?_of_mem h
          rw [List.getElem?_take] at hk'
          by_cases hlt : k' < k
          · rw [if_pos hlt] at hk'
            refine ih k' e.on (by omega) hk' ?_
            apply Classical.byContradiction
            intro hh
            exact hc (listed_of (by have := (hp.lt e.on (List.mem_of_getElem? hk')).1; omega) hh)
          · rw [if_neg hlt] at hk'; cases hk'
  obtain ⟨j, hj⟩ := key (k + 1) k i (by omega) hk hf
  exact List.ne_nil_of_mem hj

structure DrawOk (P : Program) (ops : Array Oper) : Prop where
  lower : lowerIn .any (poolOf ops) = true
  modes : P.follows .mixedOrders = true ∨ Region.departs ops = false ∨ (lowerIn .text (poolOf ops) = true ∧ hasAll ops.size (Region.linearise .gc ops 0) = true)
  pairs : pairsOk P ops (befOf ops) (canonOf P ops) = true
  all : hasAll ops.size ((canonOf P ops).map (·.1)) = true

theorem drawOk_spec {P : Program} {ops : Array Oper} (h : drawOk P ops = true) : DrawOk P ops := by
  simp only [drawOk, Bool.and_eq_true, Bool.or_eq_true, Bool.not_eq_true'] at h
  obtain ⟨⟨⟨h1, h2⟩, h3⟩, h4⟩ := h
  refine ⟨h1, ?_, h3, h4⟩
  rcases h2 with (h2 | h2) | h2
  · exact .inl h2
  · exact .inr (.inl h2)
  · exact .inr (.inr h2)

theorem DrawOk.good {P : Program} {ops : Array Oper} (h : DrawOk P ops) (t : Nat) : Good ops (Region.schedule (P.follows .mixedOrders) ops t) := by
  unfold Region.schedule
  split
  · exact good_of (ready_lower h.lower) t
  · rename_i hc
    simp only [Bool.or_eq_true, Bool.not_eq_true', not_or] at hc
    rcases h.modes with h1 | h1 | ⟨h1, h2⟩
    · exact absurd h1 hc.1
    · exact absurd h1 hc.2
    · split
      · exact good_of (ready_lower h1) _
      · exact good_of (ready_full h2) _

/-! ### What stands ahead in every order -/

def Ahead (l : List Nat) (j i : Nat) : Prop := ∀ k, l[k]? = some i → j ∈ l.take k

theorem Ahead.trans {l : List Nat} {a b c : Nat} (h1 : Ahead l a b) (h2 : Ahead l b c) : Ahead l a c := by
  intro k hk
  obtain ⟨k', hk'⟩ := List.getElem?_of_mem (h2 k hk)
  rw [List.getElem?_take] at hk'
  by_cases hlt : k' < k
  · rw [if_pos hlt] at hk'
    have := h1 k' hk'
    obtain ⟨m, hm⟩ := List.getElem?_of_mem this
    rw [List.getElem?_take] at hm
    by_cases hlt2 : m < k'
    · rw [if_pos hlt2] at hm
      exact List.mem_of_getElem? (i := m) (by rw [List.getElem?_take, if_pos (by omega)]; exact hm)
    · rw [if_neg hlt2] at hm; cases hm
  · rw [if_neg hlt] at hk'; cases hk'

theorem maskOf_ahead {ops : Array Oper} {l : List Nat} (hg : Good ops l) {acc : List Nat} (hle : acc.length ≤ ops.size) (hacc : ∀ (i : Nat) (m : Nat) (j : Nat), acc[i]? = some m → m.testBit j = true → j < ops.size → Ahead l j i) {i : Nat} {o : Oper} (ho : ops[i]? = some o) :
    ∀ (es : List Edge), (∀ e ∈ es, e ∈ o.after.toList) → ∀ j, j < ops.size → (maskOf acc es).testBit j = true → Ahead l j i
  | [], _, j, _, h => by simp [maskOf] at h
  | e :: es, hes, j, hj, h => by
    have ih := maskOf_ahead hg hle hacc ho es (fun e' he' => hes e' (List.mem_cons_of_mem _ he')) j hj
    unfold maskOf at h
    cases hb : Region.binds .any e with
    | false => rw [hb] at h; exact ih h
    | true =>
      rw [hb] at h
      simp only [cond_true, Nat.testBit_or, Bool.or_eq_true] at h
      have hpred : e.on < ops.size → Ahead l e.on i := fun hlt k hk => hg.pred k i e.on hk ⟨o, e, ho, hes e (by simp), hb, rfl⟩ hlt
      rcases h with h | h | h
      · exact ih h
      · rw [Nat.testBit_two_pow] at h
        simp only [decide_eq_true_eq] at h
        subst h
        exact hpred hj
      · rw [nth_eq] at h
        split at h
        · rename_i m hm
          have hsz : e.on < acc.length := (List.getElem?_eq_some_iff.1 hm).1
          have hlt : e.on < ops.size := by omega
          exact (hacc e.on m j hm h hj).trans (hpred hlt)
        · simp at h

theorem befGo_ahead {ops : Array Oper} {l : List Nat} (hg : Good ops l) : ∀ (os : List Oper) (acc : List Nat), ops.toList.drop acc.length = os → acc.length ≤ ops.size →
    (∀ (i : Nat) (m : Nat) (j : Nat), acc[i]? = some m → m.testBit j = true → j < ops.size → Ahead l j i) →
    ∀ (i : Nat) (m : Nat) (j : Nat), (befGo os acc)[i]? = some m → m.testBit j = true → j < ops.size → Ahead l j i
  | [], acc, _, _, hacc => by simpa [befGo] using hacc
  | o :: os, acc, hd, hle, hacc => by
    have ho : ops[acc.length]? = some o := by
      have : (ops.toList.drop acc.length)[0]? = some o := by rw [hd]; rfl
      rw [List.getElem?_drop, Array.getElem?_toList] at this; exact this
    have hlt : acc.length < ops.size := (Array.getElem?_eq_some_iff.1 ho).1
    have hd' : ops.toList.drop (acc ++ [maskOf acc o.after.toList]).length = os := by
      rw [List.length_append, List.length_singleton, ← List.drop_drop, hd]; rfl
    refine befGo_ahead hg os _ hd' (by simp; omega) ?_
    intro i m j hi hb hj
    rw [List.getElem?_append] at hi
    split at hi
    · exact hacc i m j hi hb hj
    · rename_i hge
      have : i = acc.length := by
        have := (List.getElem?_eq_some_iff.1 hi).1
        simp at this; omega
      subst this
      simp at hi
      subst hi
      exact maskOf_ahead hg hle hacc ho _ (fun e he => he) j hj hb

theorem bit_ahead {ops : Array Oper} {l : List Nat} (hg : Good ops l) {i j : Nat} (hj : j < ops.size) (h : bitOf (befOf ops) i j = true) : Ahead l j i := by
  unfold bitOf at h
  rw [nth_eq] at h
  split at h
  · rename_i m hm
    exact befGo_ahead hg _ [] rfl (by simp) (fun i m j hi => by simp at hi) i m j hm h hj
  · cases h

/-! ### The one order that is evaluated -/

theorem canon_sub {P : Program} {bef : List Nat} : ∀ (f : Nat) (pool : List (Nat × Oper)), ∀ x ∈ canon P bef f pool, x ∈ pool
  | 0, pool, x, h => by simp [canon] at h
  | f + 1, pool, x, h => by
    unfold canon at h
    split at h
    · rename_i y hy
      rcases List.mem_cons.1 h with rfl | h
      · exact List.mem_of_find?_eq_some hy
      · exact (List.mem_filter.1 (canon_sub f _ x h)).1
    · split at h
      · rename_i y hy
        rcases List.mem_cons.1 h with rfl | h
        · exact List.mem_of_find?_eq_some hy
        · exact (List.mem_filter.1 (canon_sub f _ x h)).1
      · simp at h

theorem canonOf_op {P : Program} {ops : Array Oper} {i : Nat} {o : Oper} (h : (i, o) ∈ canonOf P ops) : ops[i]? = some o :=
  pool_mem.1 (canon_sub _ _ _ h)

theorem DrawOk.mem {P : Program} {ops : Array Oper} (h : DrawOk P ops) {i : Nat} (hi : i < ops.size) : ∃ o, (i, o) ∈ canonOf P ops := by
  have := hasAll_spec h.all hi
  simp only [List.mem_map] at this
  obtain ⟨⟨i', o⟩, hm, rfl⟩ := this
  exact ⟨o, hm⟩

/-- How two operations of a drawn region, the one behind the other, stand to each other. -/
structure PairOk (P : Program) (ops : Array Oper) (i j : Nat) (x y : Oper) : Prop where
  ne : i ≠ j
  way : (ordered (befOf ops) i j = true ∧ bitOf (befOf ops) j i = true) ∨
    (ordered (befOf ops) i j = false ∧ Oper.apart ops x y = true ∧ ¬(isActO P x = true ∧ isActO P y = true) ∧ ¬(isMakeO P x = true ∧ isActO P y = true))

theorem pairsOk_get {P : Program} {ops : Array Oper} : ∀ (l : List (Nat × Oper)), pairsOk P ops (befOf ops) l = true → ∀ (p q : Nat) (i j : Nat) (x y : Oper), p < q → l[p]? = some (i, x) → l[q]? = some (j, y) → PairOk P ops i j x y
  | [], _, p, q, i, j, x, y, _, hp, _ => by simp at hp
  | (a, z) :: l, h, p, q, i, j, x, y, hpq, hp, hq => by
    simp only [pairsOk, Bool.and_eq_true, List.all_eq_true] at h
    obtain ⟨h1, h2⟩ := h
    cases q with
    | zero => omega
    | succ q =>
      simp only [List.getElem?_cons_succ] at hq
      cases p with
      | succ p =>
        simp only [List.getElem?_cons_succ] at hp
        exact pairsOk_get l h2 p q i j x y (by omega) hp hq
      | zero =>
        simp only [List.getElem?_cons_zero, Option.some.injEq, Prod.mk.injEq] at hp
        obtain ⟨rfl, rfl⟩ := hp
        have := h1 (j, y) (List.mem_of_getElem? hq)
        simp only at this
        cases ho : ordered (befOf ops) a j with
        | true =>
          rw [ho] at this
          have hlt : a < j := by simpa using this
          refine ⟨by omega, .inl ⟨ho, ?_⟩⟩
          unfold ordered at ho
          have : Nat.blt a j = true := by simpa using hlt
          rw [this] at ho; exact ho
        | false =>
          rw [ho] at this
          simp only [cond_false, Bool.and_eq_true, Bool.not_eq_true', Bool.and_eq_false_iff] at this
          obtain ⟨⟨⟨h3, h4⟩, h5⟩, h6⟩ := this
          refine ⟨fun e => ?_, .inr ⟨ho, h4, fun ⟨e1, e2⟩ => ?_, fun ⟨e1, e2⟩ => ?_⟩⟩
          · subst e; simp at h3
          · rcases h5 with h5 | h5 <;> simp_all
          · rcases h6 with h6 | h6 <;> simp_all

theorem ordered_comm {bef : List Nat} {i j : Nat} (h : i ≠ j) : ordered bef i j = ordered bef j i := by
  unfold ordered
  rcases Nat.lt_or_gt_of_ne h with h | h
  · have h1 : Nat.blt i j = true := by simpa using h
    have h2 : Nat.blt j i = false := by
      cases hb : Nat.blt j i with
      | false => rfl
      | true =>
        have : j < i := by simpa using hb
        omega
    rw [h1, h2]; rfl
  · have h1 : Nat.blt j i = true := by simpa using h
    have h2 : Nat.blt i j = false := by
      cases hb : Nat.blt i j with
      | false => rfl
      | true =>
        have : i < j := by simpa using hb
        omega
    rw [h1, h2]; rfl

end Go.Ab

namespace Go.Ab

section
variable {P : Program} {ro : Nat} {tm tm' : T Value}

theorem pairs_congr (ps : Array (Nat × Operand)) (h : ∀ x ∈ ps.toList.map (·.2), opv tm x = opv tm' x) :
    (ps.toList.map fun (i, x) => (i, opv tm x)) = (ps.toList.map fun (i, x) => (i, opv tm' x)) :=
  List.map_congr_left fun p hm => by
    obtain ⟨i, x⟩ := p
    simp only [h x (List.mem_map.2 ⟨(i, x), hm, rfl⟩)]

/-- An operation looks at its operands and at nothing else of the frame. -/
theorem evalOp_congr {o : Op} (h : ∀ x ∈ o.operands, opv tm x = opv tm' x) (s : St) : evalOp P ro tm o s = evalOp P ro tm' o s := by
  cases o <;> simp only [Op.operands] at h <;> simp only [evalOp]
  case build t ps => rw [pairs_congr ps fun x hx => h x (by simpa using hx)]
  case buildSlice t n ps => rw [pairs_congr ps fun x hx => h x (by simpa using hx)]
  case makeFunc fn first captured =>
    rw [List.map_congr_left (l := first.toList) fun x hx => h x (by simp [Array.mem_toList_iff.1 hx]), List.map_congr_left (l := captured.toList) fun x hx => h x (by simp [Array.mem_toList_iff.1 hx])]
  case call c =>
    have hargs : c.args.toList.map (opv tm) = c.args.toList.map (opv tm') := List.map_congr_left fun x hx => h x (by simp [Call.operands, Array.mem_toList_iff.1 hx])
    simp only [hargs]
    cases hc : c.callee with
    | value f => have hf : opv tm f = opv tm' f := h f (by simp [Call.operands, hc]); simp only [hf]
    | invoke r m => rfl
    | builtin b => rfl
  case defer c =>
    have hargs : c.args.toList.map (opv tm) = c.args.toList.map (opv tm') := List.map_congr_left fun x hx => h x (by simp [Call.operands, Array.mem_toList_iff.1 hx])
    simp only [hargs]
    cases hc : c.callee with
    | value f => have hf : opv tm f = opv tm' f := h f (by simp [Call.operands, hc]); simp only [hf]
    | invoke r m => rfl
    | builtin b => rfl
  case makeMap t r => cases r <;> simp_all
  case slice t x lo hi mx => cases lo <;> cases hi <;> cases mx <;> simp_all
  all_goals (first | rfl | (simp_all; done))

theorem opv_congr {ops : Array Oper} {o : Oper} (h : ∀ t ∈ o.looksAt ops, tmv tm t = tmv tm' t) : ∀ x ∈ o.op.operands, opv tm x = opv tm' x := by
  intro x hx
  cases x with
  | tmp t =>
    exact h t (List.mem_append_left _ (List.mem_filterMap.2 ⟨.tmp t, by simpa using hx, rfl⟩))
  | const v => rfl
  | global g => rfl
  | func f => rfl

theorem stepOp_congr {callF : CallE} {ops : Array Oper} {o : Oper} (h : ∀ t ∈ o.looksAt ops, tmv tm t = tmv tm' t) (s : St) : stepOp P ro callF tm o.op s = stepOp P ro callF tm' o.op s := by
  unfold stepOp
  rw [evalOp_congr (opv_congr h)]

theorem wantedA_congr {ops : Array Oper} {o : Oper} (h : ∀ t ∈ o.looksAt ops, tmv tm t = tmv tm' t) {b : Bool} (hw : wantedA ops.toList tm o = some b) : wantedA ops.toList tm' o = some b := by
  unfold wantedA at hw ⊢
  split at hw
  · rename_i hg; simpa [hg] using hw
  · rename_i j want hg
    split at hw
    · rename_i oj hoj
      split at hw
      · rename_i d hd
        rw [nth_eq, Array.getElem?_toList] at hoj
        have hm : d ∈ o.looksAt ops := by
          unfold Oper.looksAt
          rw [hg]
          simp [hoj, hd]
        have := h d hm
        unfold tmv at this
        cases h1 : tm.get d with
        | none =>
          rw [h1] at hw this
          cases h2 : tm'.get d with
          | none => exact hw
          | some v' => rw [h2] at this; simp only at this; subst this; exact hw
        | some v =>
          rw [h1] at hw this
          cases h2 : tm'.get d with
          | none => rw [h2] at this; simp only at this; subst this; exact hw
          | some v' => rw [h2] at this; simp only at this; subst this; exact hw
      · cases hw
    · cases hw

/-! ### What the sorts of operations come to -/


theorem bin_shift {s : St} {op : BinOp} {t : TypeId} {x y : Operand} {a b v : Value} (h1 : op ≠ .eql) (h2 : op ≠ .neq) (h : bin P ro s op t x y a b = some v) (s' : St) : bin P ro s' op t x y a b = some v := by
  unfold bin at h ⊢
  split at h <;> first | exact h | exact absurd rfl h1 | exact absurd rfl h2 | cases h

theorem conv_pure {s : St} {src dst : TypeId} {x : Value} {r : Res} (h : convOf P ro s src dst x = some r) (hc : clsOf P (.convert src dst (.const x)) = .pure) :
    ∃ v, r = .val v s ∧ ∀ s', convOf P ro s' src dst x = some (.val v s') := by
  unfold convOf at h ⊢
  simp only [clsOf] at hc
  cases hs : P.underlying src with
  | none => rw [hs] at h; cases h
  | some u =>
    cases hd : P.underlying dst with
    | none => rw [hs, hd] at h; cases h
    | some v =>
      rw [hs, hd] at h hc
      cases v <;> cases x <;> simp only at h hc ⊢ <;> first
        | (cases h; done)
        | (cases h; exact ⟨_, rfl, fun s' => by rfl⟩)
        | (cases u <;> simp at hc h ⊢ <;> done)

theorem builtin_max_eq {s : St} {ts : List TypeId} {args : List Value} : builtinOf P ro s .max ts args = match args with
    | x :: l => (match maxOf true x l with | some v => some (.val v s) | none => none)
    | [] => none := by cases ts <;> cases args <;> rfl
theorem builtin_min_eq {s : St} {ts : List TypeId} {args : List Value} : builtinOf P ro s .min ts args = match args with
    | x :: l => (match maxOf false x l with | some v => some (.val v s) | none => none)
    | [] => none := by cases ts <;> cases args <;> rfl
theorem builtin_len_eq {s : St} {ts : List TypeId} {args : List Value} : builtinOf P ro s .len ts args = match ts, args with
    | t :: _, x :: _ => (match lenB P s t x with | some v => some (.val v s) | none => none)
    | _, _ => none := by cases ts <;> cases args <;> rfl

/-- An operation that asks nothing of the heap. -/
theorem pure_shift {o : Op} {s : St} {r : Res} (hc : clsOf P o = .pure) (h : evalOp P ro tm o s = some r) : ∃ v, r = .val v s ∧ ∀ s', evalOp P ro tm o s' = some (.val v s') := by
  cases o
  case binOp op t x y u =>
    simp only [evalOp] at h ⊢
    split at h
    · rename_i v hv
      cases h
      refine ⟨v, rfl, fun s' => ?_⟩
      rw [bin_shift (by intro e; subst e; simp [clsOf] at hc) (by intro e; subst e; simp [clsOf] at hc) hv s']
    · cases h
  case convert src dst x =>
    simp only [evalOp] at h ⊢
    exact conv_pure h (by simpa [clsOf] using hc)
  case call c =>
    simp only [evalOp] at h ⊢
    simp only [clsOf] at hc
    cases hcal : c.callee with
    | value f => rw [hcal] at hc; simp at hc
    | invoke x m => rw [hcal] at hc; simp at hc
    | builtin b =>
      rw [hcal] at hc h
      simp only at h ⊢
      cases b <;> simp at hc
      · simp only [builtin_max_eq] at h ⊢
        split at h <;> first | (cases h; done) | skip
        all_goals (split at h <;> first | (cases h; done) | (cases h; exact ⟨_, rfl, fun s' => by simp_all⟩))
      · simp only [builtin_min_eq] at h ⊢
        split at h <;> first | (cases h; done) | skip
        all_goals (split at h <;> first | (cases h; done) | (cases h; exact ⟨_, rfl, fun s' => by simp_all⟩))
  all_goals (first | (simp [clsOf] at hc; done) | skip)
  all_goals simp only [evalOp, Bool.cond_eq_ite] at h ⊢
  all_goals (repeat' split at h)
  all_goals first
    | (cases h; done)
    | (cases h; exact ⟨_, rfl, fun s' => by simp_all⟩)
    | skip

theorem read_same {o : Op} {s : St} {r : Res} (hc : clsOf P o = .read) (h : evalOp P ro tm o s = some r) : ∃ v, r = .val v s := by
  cases o
  case convert src dst x =>
    simp only [evalOp] at h
    unfold convOf at h
    simp only [clsOf] at hc
    cases hs : P.underlying src with
    | none => rw [hs] at h; cases h
    | some u =>
      cases hd : P.underlying dst with
      | none => rw [hs, hd] at h; cases h
      | some v =>
        rw [hs, hd] at h hc
        cases v <;> cases u <;> simp only [reduceCtorEq] at hc
        cases hx : opv tm x <;> simp only [hx, reduceCtorEq] at h <;> first
          | (cases h; done)
          | (cases h; exact ⟨_, rfl⟩)
          | skip
        all_goals (repeat' split at h)
        all_goals first
          | (cases h; done)
          | (cases h; exact ⟨_, rfl⟩)
          | skip
  case call c =>
    simp only [evalOp] at h
    simp only [clsOf] at hc
    cases hcal : c.callee with
    | value f => rw [hcal] at hc; simp at hc
    | invoke x m => rw [hcal] at hc; simp at hc
    | builtin b =>
      rw [hcal] at hc h
      simp only at h
      cases b <;> simp at hc
      simp only [builtin_len_eq] at h
      split at h <;> first | (cases h; done) | skip
      all_goals (split at h <;> first | (cases h; done) | (cases h; exact ⟨_, rfl⟩))
  all_goals (first | (simp [clsOf] at hc; done) | skip)
  all_goals simp only [evalOp] at h
  all_goals (repeat' split at h)
  all_goals first
    | (cases h; done)
    | (cases h; exact ⟨_, rfl⟩)
    | skip

theorem make_shift {o : Op} {s : St} {r : Res} (hc : clsOf P o = .make) (h : evalOp P ro tm o s = some r) :
    ∃ v ob, r = .val v ⟨s.heap.set s.next ob, s.next + 1⟩ ∧ ∀ h' : T AObj, evalOp P ro tm o ⟨h', s.next⟩ = some (.val v ⟨h'.set s.next ob, s.next + 1⟩) := by
  cases o
  case convert src dst x =>
    simp only [evalOp] at h ⊢
    unfold convOf at h ⊢
    simp only [clsOf] at hc
    cases hs : P.underlying src with
    | none => rw [hs] at h; cases h
    | some u =>
      cases hd : P.underlying dst with
      | none => rw [hs, hd] at h; cases h
      | some v =>
        rw [hs, hd] at h hc
        cases v <;> first | (cases hc; done) | (cases u <;> cases hc; done) | skip
        all_goals (cases hx : opv tm x <;> simp only [hx, reduceCtorEq] at h ⊢ <;> first | (cases h; done) | skip)
        all_goals (first | (cases u <;> simp at hc h <;> done) | skip)
        all_goals (split at h <;> first | (cases h; done) | skip)
        all_goals (simp only [T.setsK_eq, newObjK_eq] at h ⊢; cases h; exact ⟨_, _, rfl, fun h' => rfl⟩)
  case binOp op _ _ _ _ => cases op <;> simp [clsOf] at hc
  all_goals (first | (simp [clsOf] at hc; done) | skip)
  case call c =>
    simp only [clsOf] at hc
    cases hcal : c.callee with
    | value f => rw [hcal] at hc; simp at hc
    | invoke x m => rw [hcal] at hc; simp at hc
    | builtin b => rw [hcal] at hc; cases b <;> simp at hc
  all_goals simp only [evalOp, Bool.cond_eq_ite] at h ⊢
  all_goals (repeat' split at h)
  all_goals first
    | (cases h; done)
    | skip
  all_goals (simp only [newRow, T.setsK_eq, newObjK_eq] at h ⊢; cases h; exact ⟨_, _, rfl, fun h' => by simp_all⟩)

end
end Go.Ab

namespace Go.Ab

section
variable {P : Program} {B ro : Nat}

/-! ### Steps over a heap that is put together -/

structure StepH (B ro : Nat) (ρ : Ren) (H : Nat → Option AObj) (w : World) (ρ' : Ren) (H' : Nat → Option AObj) (w' : World) : Prop where
  le : ρ.le ρ'
  rel : Rel B ro ρ' H' w'
  blk : ∀ ν i, ρ ν = none → ρ' ν = some i → w.heap.size ≤ i.b ∨ ∃ μ j, ro ≤ μ ∧ ρ μ = some j ∧ Live H μ ∧ j.b = i.b
  frm : ∀ β, β < w.heap.size → (∀ μ j, ρ μ = some j → ro ≤ μ → Live H μ → j.b ≠ β) → w'.heap[β]? = w.heap[β]?
  liv : ∀ ν i, ρ ν = some i → Live H' ν → Live H ν
  siz : w.heap.size ≤ w'.heap.size
  os : w'.os = w.os
  tape : w'.tape = w.tape
  output : w'.output = w.output

theorem StepH.refl {ρ : Ren} {H : Nat → Option AObj} {w : World} (h : Rel B ro ρ H w) : StepH B ro ρ H w ρ H w where
  le := Ren.le_refl ρ
  rel := h
  blk := fun ν i h1 h2 => by rw [h1] at h2; cases h2
  frm := fun _ _ _ => rfl
  liv := fun _ _ _ h => h
  siz := Nat.le_refl _
  os := rfl
  tape := rfl
  output := rfl

theorem StepH.trans {ρ ρ1 ρ2 : Ren} {H H1 H2 : Nat → Option AObj} {w w1 w2 : World} (h : StepH B ro ρ H w ρ1 H1 w1) (k : StepH B ro ρ1 H1 w1 ρ2 H2 w2) : StepH B ro ρ H w ρ2 H2 w2 where
  le := Ren.le_trans h.le k.le
  rel := k.rel
  blk := fun ν i h1 h2 => by
    cases e : ρ1 ν with
    | some j =>
      have : i = j := by have := k.le ν j e; rw [h2] at this; exact Option.some.inj this
      subst this
      exact h.blk ν i h1 e
    | none =>
      rcases k.blk ν i e h2 with hb | ⟨μ, j, m1, m2, m3, m4⟩
      · exact .inl (Nat.le_trans h.siz hb)
      · cases e0 : ρ μ with
        | some j0 =>
          have : j0 = j := by have := h.le μ j0 e0; rw [m2] at this; exact (Option.some.inj this).symm
          subst this
          exact .inr ⟨μ, j0, m1, e0, h.liv μ j0 e0 m3, m4⟩
        | none =>
          rcases h.blk μ j e0 m2 with hb | ⟨μ', j', a, b, c, d⟩
          · exact .inl (m4 ▸ hb)
          · exact .inr ⟨μ', j', a, b, c, d.trans m4⟩
  frm := fun β hβ hn => by
    rw [k.frm β (Nat.lt_of_lt_of_le hβ h.siz) ?_, h.frm β hβ hn]
    intro μ j m1 m2 m3 e
    cases e0 : ρ μ with
    | some j0 =>
      have : j0 = j := by have := h.le μ j0 e0; rw [m1] at this; exact (Option.some.inj this).symm
      subst this
      exact hn μ j0 e0 m2 (h.liv μ j0 e0 m3) e
    | none =>
      rcases h.blk μ j e0 m1 with hb | ⟨μ', j', a, b, c, d⟩
      · omega
      · exact hn μ' j' b a c (d.trans e)
  liv := fun ν i hi hl => h.liv ν i hi (k.liv ν i (h.le _ _ hi) hl)
  siz := Nat.le_trans h.siz k.siz
  os := k.os.trans h.os
  tape := k.tape.trans h.tape
  output := k.output.trans h.output

/-- A step over a part of the heap, seen from the whole. -/
theorem Step.frame {ρ ρ' : Ren} {H : Nat → Option AObj} {s s' : St} {w w' : World} (hr : Rel B ro ρ H w) (hs : Step B ro ρ s w ρ' s' w')
    (sub : ∀ ν i o, ρ ν = some i → s.heap.get ν = some o → H ν = some o) (K : Nat → Bool) (hK : ∀ ν i, ρ ν = some i → K ν = false → s.heap.get ν = none)
    (hnew : ∀ ν, s.next ≤ ν → ν < s'.next → K ν = true) : StepH B ro ρ H w ρ' (fun ν => if K ν then s'.heap.get ν else H ν) w' := by
  have sLive : ∀ ν i, ρ ν = some i → Live s.heap.get ν → Live H ν := fun ν i hi ⟨o, a, b⟩ => ⟨o, sub ν i o hi a, b⟩
  have old : ∀ ν i, K ν = false → ρ' ν = some i → ρ ν = some i := by
    intro ν i hk e
    cases e0 : ρ ν with
    | none =>
      have := hs.dom ν i e0 e
      rw [hnew ν this.1 this.2] at hk; cases hk
    | some j => have := hs.le ν j e0; rw [e] at this; exact this ▸ rfl
  have liveT : ∀ ν, K ν = true → Live (fun ν => if K ν then s'.heap.get ν else H ν) ν → Live s'.heap.get ν := by
    intro ν hk ⟨o, a, b⟩; simp only [hk, if_true] at a; exact ⟨o, a, b⟩
  have liveF : ∀ ν, K ν = false → Live (fun ν => if K ν then s'.heap.get ν else H ν) ν → Live H ν := by
    intro ν hk ⟨o, a, b⟩; simp only [hk, Bool.false_eq_true, if_false] at a; exact ⟨o, a, b⟩
  have cross : ∀ ν μ i j, K ν = true → K μ = false → ρ' ν = some i → ρ' μ = some j → ro ≤ ν → ro ≤ μ → Live s'.heap.get ν → Live H μ → i.b = j.b → False := by
    intro ν μ i j k1 k2 e1 e2 r1 r2 l1 l2 eb
    have e2' := old μ j k2 e2
    cases e0 : ρ ν with
    | some i0 =>
      have : i0 = i := by have := hs.le ν i0 e0; rw [e1] at this; exact (Option.some.inj this).symm
      subst this
      have := hr.inj ν μ i0 j e0 e2' r1 r2 (sLive ν i0 e0 (hs.liv ν i0 e0 l1)) l2 eb
      subst this
      rw [k1] at k2; cases k2
    | none =>
      rcases hs.blk ν i e0 e1 with hb | ⟨κ, k, c1, c2, c3, c4⟩
      · have := hr.inb μ j e2'; omega
      · have := hr.inj κ μ k j c2 e2' c1 r2 (sLive κ k c2 c3) l2 (by omega)
        subst this
        obtain ⟨o, a, _⟩ := c3
        rw [hK κ k c2 k2] at a; cases a
  refine { le := hs.le, rel := ?_, blk := ?_, frm := ?_, liv := ?_, siz := hs.siz, os := hs.os, tape := hs.tape, output := hs.output }
  · refine { base := hs.rel.base, inb := hs.rel.inb, own := hs.rel.own, rdo := hs.rel.rdo, inj := ?_, obj := ?_ }
    · intro ν μ i j e1 e2 r1 r2 l1 l2 eb
      cases k1 : K ν with
      | true =>
        cases k2 : K μ with
        | true => exact hs.rel.inj ν μ i j e1 e2 r1 r2 (liveT ν k1 l1) (liveT μ k2 l2) eb
        | false => exact (cross ν μ i j k1 k2 e1 e2 r1 r2 (liveT ν k1 l1) (liveF μ k2 l2) eb).elim
      | false =>
        cases k2 : K μ with
        | true => exact (cross μ ν j i k2 k1 e2 e1 r2 r1 (liveT μ k2 l2) (liveF ν k1 l1) eb.symm).elim
        | false => exact hr.inj ν μ i j (old ν i k1 e1) (old μ j k2 e2) r1 r2 (liveF ν k1 l1) (liveF μ k2 l2) eb
    · intro ν i o e e'
      cases k1 : K ν with
      | true => simp only [k1, if_true] at e'; exact hs.rel.obj ν i o e e'
      | false =>
        simp only [k1, Bool.false_eq_true, if_false] at e'
        have e0 := old ν i k1 e
        have hx := (hr.obj ν i o e0 e').mono hs.le
        by_cases hal : o.alive = true
        · refine hx.congr (hs.frm i.b (hr.inb ν i e0) fun μ j m1 m2 m3 eb => ?_)
          by_cases hro : ro ≤ ν
          · have := hr.inj μ ν j i m1 e0 m2 hro (sLive μ j m1 m3) ⟨o, e', hal⟩ eb
            subst this
            obtain ⟨o', a, _⟩ := m3
            rw [hK μ i e0 k1] at a; cases a
          · have a1 := hr.rdo ν i e0 (by omega); have a2 := hr.own μ j m1 m2; omega
        · cases o with
          | cells b => exact ⟨hx.1, hx.2.1, hx.2.2.1, fun hd => absurd (by simp [AObj.alive, hd]) hal⟩
          | map _ _ => exact absurd rfl hal
          | siter _ _ => exact absurd rfl hal
          | miter _ _ _ _ => exact absurd rfl hal
  · intro ν i e0 e1
    rcases hs.blk ν i e0 e1 with hb | ⟨κ, k, c1, c2, c3, c4⟩
    · exact .inl hb
    · exact .inr ⟨κ, k, c1, c2, sLive κ k c2 c3, c4⟩
  · exact fun β hβ hn => hs.frm β hβ fun μ j m1 m2 m3 => hn μ j m1 m2 (sLive μ j m1 m3)
  · intro ν i hi hl
    cases k1 : K ν with
    | true => exact sLive ν i hi (hs.liv ν i hi (liveT ν k1 hl))
    | false => exact liveF ν k1 hl

/-! ### The same value -/

theorem eqI_sound {a b : Int} (h : eqI a b = true) : a = b := by
  cases a <;> cases b <;> simp [eqI] at h
  · rw [h]
  · rw [h]

theorem beqBytes_sound : ∀ {a b : List UInt8}, beqBytes a b = true → a = b
  | [], [], _ => rfl
  | [], _ :: _, h => by simp [beqBytes] at h
  | _ :: _, [], h => by simp [beqBytes] at h
  | a :: x, b :: y, h => by
    simp only [beqBytes] at h
    cases hb : Nat.beq a.toNat b.toNat with
    | false => rw [hb] at h; cases h
    | true =>
      rw [hb] at h
      rw [beqBytes_sound h, UInt8.toNat_inj.1 (Nat.eq_of_beq_eq_true hb)]

theorem bytes_ext {a b : ByteArray} (h : a.data.toList = b.data.toList) : a = b := by
  cases a; cases b; simp at h; simp [h]

theorem addr_ext {a b : Addr} (h1 : a.block = b.block) (h2 : a.off = b.off) (h3 : a.spot = none) (h4 : b.spot = none) : a = b := by
  cases a; cases b; simp_all

theorem sameVs_sound {d : Nat} (ih : ∀ a b, sameV d a b = true → a = b) : ∀ (l m : List Value), sameV.sameVs d l m = true → l = m
  | [], [], _ => rfl
  | [], _ :: _, h => by simp [sameV.sameVs] at h
  | _ :: _, [], h => by simp [sameV.sameVs] at h
  | a :: l, b :: m, h => by
    simp only [sameV.sameVs, Bool.and_eq_true] at h
    rw [ih a b h.1, sameVs_sound ih l m h.2]

theorem sameV_sound : ∀ (d : Nat) (a b : Value), sameV d a b = true → a = b
  | 0, _, _, h => by simp [sameV] at h
  | d + 1, a, b, h => by
    have ih := sameV_sound d
    unfold sameV at h
    split at h
    · simpa using h
    · simp only [Bool.and_eq_true, beq_iff_eq] at h; rw [h.1, eqI_sound h.2]
    · rw [bytes_ext (beqBytes_sound h)]
    · rfl
    · simp only [Bool.and_eq_true, Option.isNone_iff_eq_none] at h
      rw [addr_ext (Nat.eq_of_beq_eq_true h.1.1.1) (Nat.eq_of_beq_eq_true h.1.1.2) h.1.2 h.2]
    · simp only [Bool.and_eq_true] at h; rw [Nat.eq_of_beq_eq_true h.1, Nat.eq_of_beq_eq_true h.2]
    · simp only [Bool.and_eq_true, Option.isNone_iff_eq_none] at h
      rw [addr_ext (Nat.eq_of_beq_eq_true h.1.1.1.1.1) (Nat.eq_of_beq_eq_true h.1.1.1.1.2) h.1.1.1.2 h.1.1.2, Nat.eq_of_beq_eq_true h.1.2, Nat.eq_of_beq_eq_true h.2]
    · rfl
    · rw [Nat.eq_of_beq_eq_true h]
    · rfl
    · rfl
    · simp only [Bool.and_eq_true] at h; rw [Nat.eq_of_beq_eq_true h.1, ih _ _ h.2]
    · have := sameVs_sound ih _ _ h; simp at this; rw [this]
    · have := sameVs_sound ih _ _ h; simp at this; rw [this]
    · simp only [Bool.and_eq_true] at h
      have h1 := sameVs_sound ih _ _ h.1.2
      have h2 := sameVs_sound ih _ _ h.2
      simp at h1 h2
      rw [Nat.eq_of_beq_eq_true h.1.1, h1, h2]
    · cases h

theorem isVal_sound {v : Value} {o : Op} {tm : T Value} {s : St} (hc : clsOf P o = .read) (h : isVal v (evalOp P ro tm o s) = true) : evalOp P ro tm o s = some (.val v s) := by
  cases he : evalOp P ro tm o s with
  | none => rw [he] at h; simp [isVal] at h
  | some r =>
    obtain ⟨u, hu⟩ := read_same hc he
    rw [he, hu] at h
    simp only [isVal] at h
    rw [hu, sameV_sound 4 v u h]

end
end Go.Ab
