/- A part of the proof that what the evaluator says of a piece of code, the model does: no condition but those that each theorem states. -/
import Derived.Test.YtneiaobhjjbedaaEv12
namespace Go.Ab

section
variable {P : Program} {B ro : Nat} {ρ : Ren} {s : St} {w : World} {tm : T Value} {ac : Act}

theorem len_sim (hr : Rel B ro ρ s.heap.get w) {t : TypeId} {x x' v : Value} {ts : Array TypeId} {ty : TypeId} {args : Array Value} (h : lenB P s t x = some v) (hx : VR ρ x x') (hts : ts[0]? = some t) (ha : args[0]? = some x') :
    (Builtin.len_ ts ty args).run P w = .ok v w ∧ VR ρ v v := by
  have num : ∀ n : Nat, VR ρ (.int .i64 (.ofNat n)) (.int .i64 (.ofNat n)) := fun n => .int _ _
  unfold lenB at h
  split at h
  · rename_i b hu
    cases h
    refine ⟨?_, num _⟩
    rw [hx.string_inv] at ha
    simp [Builtin.len_, hts, ha, run_und hu, goInt]
  · rename_i n e hu
    cases h
    refine ⟨?_, num _⟩
    simp [Builtin.len_, hts, ha, run_und hu, goInt]
  · rename_i arr hu
    split at h
    · rename_i n e hu2
      cases h
      refine ⟨?_, num _⟩
      simp [Builtin.len_, hts, ha, run_und hu, run_und hu2, goInt]
    · cases h
  · rename_i e base n cap hu
    cases h
    refine ⟨?_, num _⟩
    cases base with
    | none => rw [hx.slcNil_inv] at ha; simp [Builtin.len_, hts, ha, run_und hu, goInt]
    | some a => obtain ⟨_, i, o', c', _, he, _⟩ := hx.slc_inv; rw [he] at ha; simp [Builtin.len_, hts, ha, run_und hu, goInt]
  · rename_i k e hu
    cases h
    refine ⟨?_, .int _ _⟩
    rw [hx.mapNil_inv] at ha
    simp [Builtin.len_, hts, ha, run_und hu, goInt]
  · rename_i k e r hu
    split at h
    · rename_i es c hm
      cases h
      obtain ⟨i, hi, he⟩ := hx.map_inv
      obtain ⟨es', m1, m2⟩ := map_obj hr hm hi
      refine ⟨?_, num _⟩
      rw [he] at ha
      have hl : es.length = es'.size := by rw [m2.length]; simp
      simp [Builtin.len_, hts, ha, run_und hu, run_getObj_map m1, goInt, hl]
    · cases h
  · cases h

theorem max2_sim {mx : Bool} {a b a' b' v : Value} (h : max2 mx a b = some v) (ha : VR ρ a a') (hb : VR ρ b b') :
    ∃ v', ((if mx then Builtin.max2 else Builtin.min2) a' b').run P w = .ok v' w ∧ VR ρ v v' := by
  unfold max2 at h
  split at h
  · rename_i k x k' y
    cases h
    rw [ha.int_inv, hb.int_inv]
    cases mx with
    | true =>
      refine ⟨_, rfl, ?_⟩
      simp only [cond_true, ltI_eq]
      by_cases hlt : y > x
      · rw [if_pos hlt, decide_eq_true hlt]; exact .int _ _
      · rw [if_neg hlt, decide_eq_false hlt]; exact .int _ _
    | false =>
      refine ⟨_, rfl, ?_⟩
      simp only [cond_false, ltI_eq]
      by_cases hlt : y < x
      · rw [if_pos hlt, decide_eq_true hlt]; exact .int _ _
      · rw [if_neg hlt, decide_eq_false hlt]; exact .int _ _
  · cases h

theorem maxOf_sim {mx : Bool} : ∀ (l : List Value) (x x' v : Value) (l' : List Value), maxOf mx x l = some v → VR ρ x x' → VRs ρ l l' →
    ∃ v', (l'.foldlM (if mx then Builtin.max2 else Builtin.min2) x').run P w = .ok v' w ∧ VR ρ v v'
  | [], x, x', v, l', h, hx, hl => by
    rw [L2.nil_left hl]
    simp only [maxOf] at h; cases h
    exact ⟨x', rfl, hx⟩
  | y :: l, x, x', v, l', h, hx, hl => by
    obtain ⟨y', m, rfl, h1, h2⟩ := L2.cons_left hl
    simp only [maxOf] at h
    split at h
    · rename_i z hz
      obtain ⟨z', e1, e2⟩ := max2_sim (P := P) (w := w) hz hx h1
      obtain ⟨v', e3, e4⟩ := maxOf_sim l z z' v m h e2 h2
      refine ⟨v', ?_, e4⟩
      simp only [List.foldlM_cons, Sem.run_bind, e1, Result.andThen_ok, e3]
    · cases h

theorem copy_sim (hr : Rel B ro ρ s.heap.get w) {t e : TypeId} {base : Option Addr} {dLen cap : Nat} {d' x x' : Value} {size m : Nat} {l : List Value} {ts : Array TypeId} {ty : TypeId} {args : Array Value}
    (hu : P.underlying t = some (.slice e)) (hsz : szOf P e = some size) (hm : lenOfV x = some m) (hl : firstL s size (Nat.min m dLen) x = some l) (hd : VR ρ (.slice base dLen cap) d') (hx : VR ρ x x')
    (hts : ts[0]? = some t) (ha : args[0]? = some d') (ha1 : args[1]? = some x') :
    (∀ a, base = some a → a.spot = none → ∀ s', stCells ro s a.block a.off l = some s' → ∃ w', (Builtin.copy_ ts ty args).run P w = .ok (goInt (Nat.min m dLen : Nat)) w' ∧ Step B ro ρ s w ρ s' w') ∧
    (base = none → (Builtin.copy_ ts ty args).run P w = .ok (goInt (Nat.min m dLen : Nat)) w) := by
  have hlen := lenOf_sim (P := P) (w := w) hx hm
  obtain ⟨l', g1, g2⟩ := firstL_sim (P := P) hr hx hl hm (Nat.min_le_left _ _)
  have g1 := g1 w rfl
  refine ⟨fun a hb hsp s' hst => ?_, fun hb => ?_⟩
  · subst hb
    obtain ⟨_, i, o', c', hi, he, hs⟩ := hd.slc_inv
    rw [he] at ha
    obtain ⟨ab, ao, asp⟩ := a
    simp only at hi hs hst hsp
    obtain ⟨w', r1, r2⟩ := stCells_sim (P := P) hr hi hst g2
    refine ⟨w', ?_, r2⟩
    have hstore : (storeCells ⟨i.b, o', none⟩ l' 0).run P w = .ok () w' := by
      rcases hs with h | h | h
      · rw [h.1]; exact r1
      · rw [h.2.1]; exact r1
      · have h0 : dLen = 0 := h.2.1
        subst h0
        have : Nat.min m 0 = 0 := by simp
        rw [this] at hl
        have hnil := firstL_zero hl
        subst hnil
        have hnil' := L2.nil_left g2
        subst hnil'
        simp only [storeCells, Sem.run_pure] at r1 ⊢
        exact r1
    simp [Builtin.copy_, hts, ha, ha1, run_und hu, hlen, run_sizeOf' hsz, g1, hstore]
  · subst hb
    rw [hd.slcNil_inv] at ha
    simp [Builtin.copy_, hts, ha, ha1, run_und hu, hlen, run_sizeOf' hsz, g1]

theorem arr_cons {α : Type} {a : Array α} {x : α} {l : List α} (h : a.toList = x :: l) : a[0]? = some x := by
  rw [← Array.getElem?_toList, h]; rfl
theorem arr_cons1 {α : Type} {a : Array α} {x y : α} {l : List α} (h : a.toList = x :: y :: l) : a[1]? = some y := by
  rw [← Array.getElem?_toList, h]; rfl
theorem arr_one {α : Type} {a : Array α} {x : α} (h : a.toList = [x]) : a[1]? = none := by
  rw [← Array.getElem?_toList, h]; rfl

theorem ok_callBuiltin {o : Oper} {c : Call} {b : Builtin} {r : Res} (ho : o.op = .call c) (hc : c.callee = .builtin b) (h : evalOp P ro tm o.op s = some r) : OpOk P B ro tm o s r := by
  intro ρ w ac hr ht hro hfr
  rw [ho] at h; simp only [evalOp, hc] at h
  have hargs := vrs_ops (ac := ac) ht c.args.toList
  have hal : (c.args.map ac.eval).toList = c.args.toList.map ac.eval := by simp
  rw [← hal] at hargs
  obtain ⟨consts, hex⟩ : ∃ consts, execOp ac.eval o = builtin b c.argTypes o.type consts (c.args.map ac.eval) :=
    ⟨_, by simp only [execOp, ho, resolve, hc, invoke]; rfl⟩
  rw [hex]
  generalize c.args.map ac.eval = args at hargs
  generalize c.args.toList.map (opv tm) = aargs at h hargs
  generalize hT : c.argTypes.toList = tl at h
  unfold builtinOf at h
  split at h
  · -- len
    rename_i t tr x xr
    obtain ⟨x', m, hm, h1, h2⟩ := L2.cons_left hargs
    split at h
    · rename_i v hv
      cases h
      obtain ⟨e1, e2⟩ := len_sim (P := P) (ty := o.type) hr hv h1 (arr_cons hT) (arr_cons hm)
      exact .same hr (v' := v) (by simp [builtin, e1]) e2
    · cases h
  · -- append of two
    rename_i t u tr x y xr
    obtain ⟨x', m, hm, h1, h2⟩ := L2.cons_left hargs
    obtain ⟨y', m', hm', h3, h4⟩ := L2.cons_left h2
    subst hm'
    split at h
    · cases h
    · rename_i e d hne hu hd
      obtain ⟨v, s', ρ', w', v', e1, e2, e3, e4⟩ := appendOf_sim (P := P) (ty := o.type) hr hro h h1 h3 hu (arr_cons hT) (fun u' hu' => by
        rw [arr_cons1 hT] at hu'; cases hu'
        exact ⟨d, hd, fun k e => hne k (by rw [e])⟩) hfr
      subst e1
      refine ⟨ρ', w', v', .inl ?_, e3, e4⟩
      have : (Builtin.append_ c.argTypes o.type args).run P w = .ok v' w' := by
        have hq : (Builtin.append_ c.argTypes o.type args) = (Builtin.append_ c.argTypes o.type #[x', y']) := by
          unfold Builtin.append_
          rw [arr_cons hm, arr_cons1 hm]; rfl
        rw [hq]; exact e2
      simp [builtin, this]
    · cases h
  · -- append of one type
    rename_i t x y xr
    obtain ⟨x', m, hm, h1, h2⟩ := L2.cons_left hargs
    obtain ⟨y', m', hm', h3, h4⟩ := L2.cons_left h2
    subst hm'
    split at h
    · rename_i e hu
      obtain ⟨v, s', ρ', w', v', e1, e2, e3, e4⟩ := appendOf_sim (P := P) (ty := o.type) hr hro h h1 h3 hu (arr_cons hT) (fun u' hu' => by
        rw [arr_one hT] at hu'; cases hu') hfr
      subst e1
      refine ⟨ρ', w', v', .inl ?_, e3, e4⟩
      have : (Builtin.append_ c.argTypes o.type args).run P w = .ok v' w' := by
        have hq : (Builtin.append_ c.argTypes o.type args) = (Builtin.append_ c.argTypes o.type #[x', y']) := by
          unfold Builtin.append_
          rw [arr_cons hm, arr_cons1 hm]; rfl
        rw [hq]; exact e2
      simp [builtin, this]
    · cases h
  · -- copy
    rename_i t tr base dLen cap x xr
    obtain ⟨d', m, hm, h1, h2⟩ := L2.cons_left hargs
    obtain ⟨x', m', hm', h3, h4⟩ := L2.cons_left h2
    subst hm'
    split at h
    · rename_i e hu
      split at h
      · rename_i size k hsz hk
        simp only at h
        split at h
        · rename_i l hl
          obtain ⟨q1, q2⟩ := copy_sim (P := P) (ty := o.type) hr hu hsz hk hl h1 h3 (arr_cons hT) (arr_cons hm) (arr_cons1 hm)
          split at h
          · cases h
            refine .same hr (v' := goInt (Nat.min k dLen : Nat)) (by simp [builtin, q2 rfl]) (.int _ _)
          · rename_i a
            split at h
            · cases h
            · rename_i hsp
              split at h
              · rename_i s' hst
                cases h
                obtain ⟨w', r1, r2⟩ := q1 a rfl hsp s' hst
                exact ⟨ρ, w', goInt (Nat.min k dLen : Nat), .inl (by simp [builtin, r1]), r2, .int _ _⟩
              · cases h
        · cases h
      · cases h
    · cases h
  · -- clear
    rename_i t tr x xr
    obtain ⟨x', m, hm, h1, h2⟩ := L2.cons_left hargs
    have ht0 := arr_cons hT
    have ha0 := arr_cons hm
    split at h
    · rename_i u hu
      cases h
      rw [h1.mapNil_inv] at ha0
      refine .same hr (v' := .tuple #[]) ?_ (VR.tuple_of (l := []) (m := []) .nil)
      simp [builtin, Builtin.clear_, ht0, ha0, run_und hu]
    · rename_i u l cp hu
      cases h
      rw [h1.slcNil_inv] at ha0
      refine .same hr (v' := .tuple #[]) ?_ (VR.tuple_of (l := []) (m := []) .nil)
      simp [builtin, Builtin.clear_, ht0, ha0, run_und hu]
    · rename_i u base cp hu hne
      cases h
      refine .same hr (v' := .tuple #[]) ?_ (VR.tuple_of (l := []) (m := []) .nil)
      cases base with
      | none => rw [h1.slcNil_inv] at ha0; simp [builtin, Builtin.clear_, ht0, ha0, run_und ‹P.underlying t = some u›]
      | some a => obtain ⟨_, i, o', c', _, he, _⟩ := h1.slc_inv; rw [he] at ha0; simp [builtin, Builtin.clear_, ht0, ha0, run_und ‹P.underlying t = some u›]
    · rename_i u rr hu
      split at h
      · rename_i es cl hmo
        cases hb : Nat.ble ro rr with
        | false => rw [hb] at h; cases h
        | true =>
          rw [hb] at h
          simp only [cond_true, setObjK_eq] at h
          cases h
          obtain ⟨i, hi, he⟩ := h1.map_inv
          obtain ⟨es', m1, m2⟩ := map_obj hr hmo hi
          have hilt : i.b < w.heap.size := hr.inb _ _ hi
          rw [he] at ha0
          refine ⟨ρ, { w with heap := w.heap.setIfInBounds i.b (.map #[] cl) }, .tuple #[], .inl ?_, Step.turn hr (by simpa using hb) hi (mapOf_some hmo) rfl (by simp) (fun q hq => ?_) rfl rfl rfl ⟨#[], by simp [hilt], .nil⟩, VR.tuple_of (l := []) (m := []) .nil⟩
          · simp [builtin, Builtin.clear_, ht0, ha0, run_und hu, run_getObj_map m1, run_setObj m1 rfl]
          · simp only [Array.getElem?_setIfInBounds]; rw [if_neg (fun e => hq e.symm)]
      · cases h
    · rename_i e a n cp hne hu
      split at h
      · rename_i z hsp hz
        split at h
        · rename_i s' hst
          cases h
          obtain ⟨_, i, o', c', hi, he, hs⟩ := h1.slc_inv
          obtain ⟨zv, z1, z2⟩ := zeroC_run hz
          have hzl := (z2 ρ).length
          have hrep := repeat_rel (z2 ρ) n (n * zv.cells.size) (by rw [hzl]; simp)
          obtain ⟨w', r1, r2⟩ := stCells_sim (P := P) hr hi hst hrep
          rw [he] at ha0
          have hn0 : n ≠ 0 := fun e => hne e
          have hoff : o' = i.r + a.off := by rcases hs with h | h | h <;> omega
          subst hoff
          refine ⟨ρ, w', .tuple #[], .inl ?_, r2, VR.tuple_of (l := []) (m := []) .nil⟩
          have hzc : Builtin.zeroCells zv.cells n = madeCells zv.cells (n * zv.cells.size) := rfl
          simp [builtin, Builtin.clear_, ht0, ha0, run_und ‹P.underlying t = some (.slice e)›, z1, hzc, r1, hn0]
        · cases h
      · cases h
    · cases h
  · -- delete
    rename_i t tr m k xr
    obtain ⟨m', q, hm, h1, h2⟩ := L2.cons_left hargs
    obtain ⟨k', q', hm', h3, h4⟩ := L2.cons_left h2
    subst hm'
    split at h
    · rename_i s' hs
      cases h
      obtain ⟨w', r1, r2⟩ := mapDel_sim (P := P) hr hs h1 h3 o.type c.argTypes (arr_cons hT)
      refine ⟨ρ, w', .tuple #[], .inl ?_, r2, VR.tuple_of (l := []) (m := []) .nil⟩
      have : (Builtin.delete_ c.argTypes o.type args).run P w = .ok (.tuple #[]) w' := by
        have hq : (Builtin.delete_ c.argTypes o.type args) = (Builtin.delete_ c.argTypes o.type #[m', k']) := by
          unfold Builtin.delete_
          rw [arr_cons hm, arr_cons1 hm]; rfl
        rw [hq]; exact r1
      simp [builtin, this]
    · cases h
  · -- max
    rename_i x l
    obtain ⟨x', m, hm, h1, h2⟩ := L2.cons_left hargs
    split at h
    · rename_i v hv
      cases h
      obtain ⟨v', e1, e2⟩ := maxOf_sim (P := P) (w := w) (mx := true) l x x' v m hv h1 h2
      simp only [if_true] at e1
      exact .same hr (v' := v') (by simp [builtin, Builtin.max_, hm, e1]) e2
    · cases h
  · -- min
    rename_i x l
    obtain ⟨x', m, hm, h1, h2⟩ := L2.cons_left hargs
    split at h
    · rename_i v hv
      cases h
      obtain ⟨v', e1, e2⟩ := maxOf_sim (P := P) (w := w) (mx := false) l x x' v m hv h1 h2
      simp only [Bool.false_eq_true, if_false] at e1
      exact .same hr (v' := v') (by simp [builtin, Builtin.min_, hm, e1]) e2
    · cases h
  · -- recover
    cases h
    exact ⟨rfl, rfl⟩
  · -- panic
    rename_i x xr
    obtain ⟨x', m, hm, h1, h2⟩ := L2.cons_left hargs
    split at h
    · rename_i t v
      cases h
      obtain ⟨v', he, hv⟩ := h1.iface_inv
      refine ⟨rfl, .iface t v', ?_, .iface t hv⟩
      have h0 : args.getD 0 .nilIface = .iface t v' := by
        have := arr_cons hm
        rw [he] at this
        simp [Array.getD_eq_getD_getElem?, this]
      simp [builtin, h0, Instr.panic]
    · cases h
  · cases h

/-- Each operation that the evaluator takes, the model takes, to the same end. -/
theorem evalOp_ok {o : Oper} {r : Res} (h : evalOp P ro tm o.op s = some r) : OpOk P B ro tm o s r := by
  cases ho : o.op with
  | move x => exact ok_move ho h
  | assign x => exact ok_assign ho h
  | pick c a b => exact ok_pick ho h
  | alloc e => exact ok_alloc ho h
  | box e x => exact ok_box ho h
  | build t p => exact ok_build ho h
  | buildSlice t l p => exact ok_buildSlice ho h
  | insert t m k x => exact ok_mapUpdate (.inr ho) h
  | load t x => exact ok_load ho h
  | store t x y => exact ok_store ho h
  | nilCheck x => exact ok_nilCheck ho h
  | binOp op t x y u => exact ok_binOp ho h
  | unOp op t x => exact ok_unOp ho h wrapK_eq
  | convert a b x => exact ok_convert ho h
  | makeInterface t x => exact ok_makeInterface ho h
  | makeFunc f a b => exact ok_makeFunc ho h
  | makeMap t x => exact ok_makeMap ho h
  | makeSlice t x y => exact ok_makeSlice ho h
  | slice t x lo hi mx => exact ok_slice ho h
  | fieldAddr t x f => exact ok_fieldAddr ho h
  | field t x f => exact ok_field ho h
  | indexAddr t x y => exact ok_indexAddr ho h
  | index t x y => exact ok_index ho h
  | lookup t x k ok => exact ok_lookup ho h
  | mapUpdate t m k x => exact ok_mapUpdate (.inl ho) h
  | range t x => exact ok_range ho h
  | next x b => exact ok_next ho h
  | entry x => exact ok_entry ho h
  | typeAssert x a b ok => exact ok_typeAssert ho h
  | extract x i => exact ok_extract ho h
  | call c =>
    cases hc : c.callee with
    | value f => exact ok_callValue ho hc h
    | builtin b => exact ok_callBuiltin ho hc h
    | invoke x m => rw [ho] at h; simp [evalOp, hc] at h
  | defer c => exact ok_defer ho h
  | panic x => exact ok_panic ho h
  | _ => rw [ho] at h; simp [evalOp] at h

end
end Go.Ab
