/- A part of the proof that what the evaluator says of a piece of code, the model does: no condition but those that each theorem states. -/
import Derived.Test.YtneiaobhjjbedaaEv8
namespace Go.Ab

section
variable {P : Program} {B ro : Nat} {ρ : Ren} {s : St} {w : World} {tm : T Value} {ac : Act}

theorem fold_set : ∀ (vs : List Value) (k off : Nat) (cs : Array Value), off + k + vs.length ≤ cs.size →
    ((vs.zipIdx k).foldl (fun cs (x : Value × Nat) => cs.setIfInBounds (off + x.2) x.1) cs).size = cs.size ∧
    ∀ j, ((vs.zipIdx k).foldl (fun cs (x : Value × Nat) => cs.setIfInBounds (off + x.2) x.1) cs)[j]? = if off + k ≤ j ∧ j < off + k + vs.length then vs[j - (off + k)]? else cs[j]?
  | [], k, off, cs, _ => ⟨rfl, fun j => by rw [if_neg (by simp)]; rfl⟩
  | v :: vs, k, off, cs, h => by
    simp only [List.length_cons] at h
    simp only [List.zipIdx_cons, List.foldl_cons]
    obtain ⟨h1, h2⟩ := fold_set vs (k + 1) off (cs.setIfInBounds (off + k) v) (by simp; omega)
    refine ⟨by rw [h1]; simp, fun j => ?_⟩
    rw [h2, Array.getElem?_setIfInBounds]
    by_cases hj : off + k = j
    · subst hj
      rw [if_neg (by omega), if_pos rfl, if_pos (by omega), if_pos (by simp)]; simp
    · rw [if_neg hj]
      by_cases h3 : off + (k + 1) ≤ j ∧ j < off + (k + 1) + vs.length
      · rw [if_pos h3, if_pos (by simp; omega)]
        obtain ⟨d, rfl⟩ : ∃ d, j = off + (k + 1) + d := ⟨j - (off + (k + 1)), by omega⟩
        have e1 : off + (k + 1) + d - (off + (k + 1)) = d := by omega
        have e2 : off + (k + 1) + d - (off + k) = d + 1 := by omega
        rw [e1, e2]; simp
      · rw [if_neg h3, if_neg (by simp; omega)]

theorem fold_set_arr (vs : Array Value) (off : Nat) (cs : Array Value) (h : off + vs.size ≤ cs.size) :
    (vs.zipIdx.foldl (fun cs (x : Value × Nat) => cs.setIfInBounds (off + x.2) x.1) cs).toList = cs.toList.take off ++ (vs.toList ++ cs.toList.drop (off + vs.size)) := by
  have e0 : vs.zipIdx.foldl (fun cs (x : Value × Nat) => cs.setIfInBounds (off + x.2) x.1) cs = (vs.toList.zipIdx 0).foldl (fun cs (x : Value × Nat) => cs.setIfInBounds (off + x.2) x.1) cs := by
    rw [← Array.foldl_toList]; simp
  rw [e0]
  obtain ⟨h1, h2⟩ := fold_set vs.toList 0 off cs (by simpa using h)
  apply List.ext_getElem?
  intro j
  rw [Array.getElem?_toList, h2]
  simp only [Nat.add_zero, Array.length_toList]
  rw [List.getElem?_append]
  have hlt : (cs.toList.take off).length = off := by simp; omega
  rw [hlt]
  by_cases hj : j < off
  · rw [if_neg (by omega), if_pos hj, List.getElem?_take, if_pos hj]; simp
  · rw [if_neg hj, List.getElem?_append]
    simp only [Array.length_toList]
    by_cases h3 : off ≤ j ∧ j < off + vs.size
    · rw [if_pos h3, if_pos (by omega)]
    · rw [if_neg h3, if_neg (by omega), List.getElem?_drop]
      simp only [Array.getElem?_toList]
      congr 1; omega

def PartR (ρ : Ren) (x y : Nat × Value) : Prop := x.1 = y.1 ∧ VR ρ x.2 y.2

theorem fill_sim {place place' : Nat → Option (Nat × Nat)} (hp : ∀ i x, place i = some x → place' i = some x) :
    ∀ (parts : List (Nat × Value)) (cells : List Value) (l : List Value) (parts' : List (Nat × Value)) (cells' : Array Value), fillL place cells parts = some l → VRs ρ cells cells'.toList → L2 (PartR ρ) parts parts' →
      ∃ l', Instr.fill place' cells' parts' = some l' ∧ VRs ρ l l'.toList
  | [], cells, l, parts', cells', h, hc, hpr => by
    rw [L2.nil_left hpr]
    simp only [fillL] at h
    cases h
    exact ⟨cells', rfl, hc⟩
  | (i, v) :: rest, cells, l, parts', cells', h, hc, hpr => by
    obtain ⟨y, rest', rfl, ⟨hy1, hy2⟩, hrest⟩ := L2.cons_left hpr
    obtain ⟨i', v'⟩ := y
    simp only at hy1 hy2
    subst hy1
    simp only [fillL] at h
    split at h
    · cases h
    · rename_i off size hpl
      split at h
      · cases h
      · rename_i vs hvs
        cases hb : (Nat.beq vs.length size && Nat.ble (off + size) cells.length) with
        | false => rw [hb] at h; cases h
        | true =>
          rw [hb] at h
          simp only [cond_true] at h
          simp only [Bool.and_eq_true, Nat.ble_eq] at hb
          have hb1 : vs.length = size := Nat.eq_of_beq_eq_true hb.1
          have hvr := cellsV_rel hy2 hvs
          have hvl : v'.cells.size = size := by rw [← hb1, hvr.length]; simp
          have hcl : cells.length = cells'.size := by rw [hc.length]; simp
          have hcells : VRs ρ (cells.take off ++ (vs ++ cells.drop (off + size))) (v'.cells.zipIdx.foldl (fun cs (x : Value × Nat) => cs.setIfInBounds (off + x.2) x.1) cells').toList := by
            rw [fold_set_arr _ _ _ (by omega), hvl]
            exact (hc.take off).append (hvr.append (hc.drop _))
          obtain ⟨l', e1, e2⟩ := fill_sim hp rest _ l rest' _ h hcells hrest
          refine ⟨l', ?_, e2⟩
          have c1 : (decide (v'.cells.size ≠ size) || decide (off + v'.cells.size > cells'.size)) = false := by
            rw [decide_eq_false (by simpa using hvl), decide_eq_false (by omega)]; rfl
          simp only [Instr.fill, hp i _ hpl]
          rw [if_neg (by rw [c1]; simp)]
          exact e1

theorem run_mapM {α β : Type} (f : α → Sem β) (g : α → β) (w : World) : ∀ (l : List α), (∀ a ∈ l, (f a).run P w = .ok (g a) w) → (l.mapM f).run P w = .ok (l.map g) w
  | [], _ => by simp
  | a :: l, h => by
    simp only [List.mapM_cons, Sem.run_bind, h a (by simp), Result.andThen_ok, run_mapM f g w l (fun b hb => h b (by simp [hb])), Sem.run_pure, List.map_cons]

theorem structPlaces_some : ∀ (fs : List Field) (pl : List (Nat × Nat)), structPlaces P fs = some pl → (fs.mapM fun f => (do pure (f.offset, ← sizeOf f.type) : Sem (Nat × Nat))).run P w = .ok pl w
  | [], pl, h => by simp [structPlaces] at h; subst h; simp
  | f :: fs, pl, h => by
    simp only [structPlaces] at h
    split at h
    · rename_i n r hn hr
      cases h
      simp only [List.mapM_cons, Sem.run_bind, run_sizeOf' hn, Result.andThen_ok, Sem.run_pure, structPlaces_some fs r hr]
    · cases h

theorem parts_rel (ht : TmR ρ tm ac.tmps) (l : List (Nat × Operand)) : L2 (PartR ρ) (l.map fun (i, x) => (i, opv tm x)) (l.map fun (i, x) => (i, ac.eval x)) :=
  L2.map_same fun x _ => ⟨rfl, opv_rel ht x.2⟩

theorem ok_build {o : Oper} {t : TypeId} {parts : Array (Nat × Operand)} {r : Res} (ho : o.op = .build t parts) (h : evalOp P ro tm o.op s = some r) : OpOk P B ro tm o s r := by
  intro ρ w ac hr ht hro hfr
  rw [ho] at h; simp only [evalOp] at h
  have hp := parts_rel (ac := ac) ht parts.toList
  have hpt : (parts.map fun (i, x) => (i, ac.eval x)).toList = parts.toList.map fun (i, x) => (i, ac.eval x) := by simp
  have hex : (execOp ac.eval o).run P w = ((Instr.build t (parts.map fun (i, x) => (i, ac.eval x))).run P w).andThen fun v w' => .ok (.value v) w' := by simp [execOp, ho]
  rw [hex]
  split at h
  · rename_i z fs hz hu
    obtain ⟨zv, z1, z2⟩ := zeroC_run hz
    split at h
    · rename_i pl hpl
      split at h
      · rename_i l hl
        cases h
        obtain ⟨l', e1, e2⟩ := fill_sim (place' := (pl.toArray[·]?)) (fun i x h => by rw [nth_eq] at h; simpa using h) _ _ _ _ _ hl (z2 ρ) hp
        refine .same hr (v' := .agg l') ?_ (VR.agg_of e2)
        have hm : (fs.mapM fun f => (do pure (f.offset, ← sizeOf f.type) : Sem (Nat × Nat))).run P w = .ok pl.toArray w := by
          have : fs = fs.toList.toArray := by simp
          rw [this, List.mapM_toArray, Sem.run_map, structPlaces_some fs.toList pl hpl]; rfl
        simp only [Instr.build, Sem.run_bind, z1, Result.andThen_ok, run_und hu, hm, hpt, e1, Sem.run_pure]
      · cases h
    · cases h
  · rename_i z len elem hz hu
    obtain ⟨zv, z1, z2⟩ := zeroC_run hz
    split at h
    · rename_i n hn
      split at h
      · rename_i l hl
        cases h
        obtain ⟨l', e1, e2⟩ := fill_sim (place' := fun i => some (i * n, n)) (fun i x h => h) _ _ _ _ _ hl (z2 ρ) hp
        refine .same hr (v' := .agg l') ?_ (VR.agg_of e2)
        simp only [Instr.build, Sem.run_bind, z1, Result.andThen_ok, run_und hu, run_sizeOf' hn, hpt, e1, Sem.run_pure]
      · cases h
    · cases h
  · cases h

theorem repeatL_get (z : List Value) : ∀ (n j : Nat), j < n * z.length → (repeatL z n)[j]? = z[j % z.length]?
  | 0, j, h => by omega
  | n + 1, j, h => by
    simp only [repeatL]
    rw [List.getElem?_append]
    by_cases hj : j < z.length
    · rw [if_pos hj, Nat.mod_eq_of_lt hj]
    · rw [if_neg hj, repeatL_get z n (j - z.length) (by rw [Nat.add_mul] at h; omega)]
      congr 1
      rw [← Nat.mod_eq_sub_mod (by omega)]

theorem repeatL_length (z : List Value) : ∀ (n : Nat), (repeatL z n).length = n * z.length
  | 0 => by simp [repeatL]
  | n + 1 => by simp only [repeatL, List.length_append, repeatL_length z n, Nat.add_mul]; omega

/-- Zeros, n times over. -/
theorem repeat_rel {z : List Value} {zs : Array Value} (hz : VRs ρ z zs.toList) (n m : Nat) (hm : m = n * z.length) : VRs ρ (repeatL z n) (madeCells zs m).toList := by
  have hl : zs.size = z.length := by rw [hz.length]; simp
  refine L2.of_get (by rw [repeatL_length]; simp [size_madeCells, hm]) fun j a b ha hb => ?_
  have hj : j < n * z.length := by
    have := (List.getElem?_eq_some_iff.1 ha).1
    rwa [repeatL_length] at this
  rw [repeatL_get z n j hj] at ha
  obtain ⟨v', v1, v2⟩ := hz.get ha
  have : b = v' := by
    rw [Array.getElem?_toList] at hb v1
    simp only [madeCells] at hb
    rw [Array.getElem?_map, Array.getElem?_range, if_pos (by omega)] at hb
    simp only [Option.map_some] at hb
    rw [hl, getElem!_def, v1] at hb
    exact (Option.some.inj hb).symm
  rw [this]; exact v2

theorem ok_buildSlice {o : Oper} {t : TypeId} {len : Nat} {parts : Array (Nat × Operand)} {r : Res} (ho : o.op = .buildSlice t len parts) (h : evalOp P ro tm o.op s = some r) : OpOk P B ro tm o s r := by
  intro ρ w ac hr ht hro hfr
  rw [ho] at h; simp only [evalOp] at h
  have hp := parts_rel (ac := ac) ht parts.toList
  have hpt : (parts.map fun (i, x) => (i, ac.eval x)).toList = parts.toList.map fun (i, x) => (i, ac.eval x) := by simp
  have hex : (execOp ac.eval o).run P w = ((Instr.buildSlice t len (parts.map fun (i, x) => (i, ac.eval x))).run P w).andThen fun v w' => .ok (.value v) w' := by simp [execOp, ho]
  rw [hex]
  split at h
  · rename_i elem hu
    split at h
    · rename_i n z hn hz
      obtain ⟨zv, z1, z2⟩ := zeroC_run hz
      cases hb : (Nat.ble (len * n) 16777216 && Nat.beq z.length n) with
      | false => rw [hb] at h; cases h
      | true =>
        rw [hb] at h
        simp only [cond_true] at h
        simp only [Bool.and_eq_true, Nat.ble_eq] at hb
        have hzn : z.length = n := Nat.eq_of_beq_eq_true hb.2
        split at h
        · rename_i l hl
          rw [newRow_eq] at h
          cases h
          have hf : ρ s.next = none := hfr _ (Nat.le_refl _) (by simp [Res.next])
          have hzz : VRs ρ (repeatL z len) (madeCells (if len * n = 0 then #[] else zv.cells) (len * n)).toList := by
            by_cases h0 : len * n = 0
            · have e1 : repeatL z len = [] := by
                rw [← List.length_eq_zero_iff, repeatL_length, hzn, h0]
              rw [e1, h0]; simp [madeCells]; exact .nil
            · rw [if_neg h0]
              exact repeat_rel (z2 ρ) len _ (by rw [hzn])
          obtain ⟨l', e1, e2⟩ := fill_sim (place' := fun i => some (i * n, n)) (fun i x h => h) _ _ _ _ _ hl hzz hp
          have hrun : (Instr.buildSlice t len (parts.map fun (i, x) => (i, ac.eval x))).run P w = .ok (.slice (some ⟨w.heap.size, 0, none⟩) len len) (w.alloc (.cells l' elem)) := by
            have hlt : ¬ (len * n > 2 ^ 24) := by have : 2 ^ 24 = 16777216 := rfl; omega
            have e1' : Instr.fill (fun i => some (i * n, n)) ((Array.range (len * n)).map ((if len * n = 0 then #[] else zv.cells)[· % (if len * n = 0 then #[] else zv.cells).size]!)) ((parts.map fun (i, x) => (i, ac.eval x)).toList) = some l' := by rw [hpt]; exact e1
            by_cases h0 : len * n = 0
            · simp only [h0, if_true] at e1'
              simp [Instr.buildSlice, run_und hu, run_sizeOf' hn, h0, Go.newRow]
              simp at e1'
              rw [e1']
              simp
            · simp only [h0, if_false] at e1'
              simp [Instr.buildSlice, run_und hu, run_sizeOf' hn, h0, Go.newRow, hlt, z1]
              simp at e1'
              rw [e1']
              simp
          rw [hrun]
          refine ⟨_, _, _, .inl rfl, Step.newRow hr hro hf (rest := []) (t := elem) (by rw [List.append_nil, Array.toArray_toList]; rfl) rfl rfl rfl e2 (fun _ => rfl), .slc (Ren.upd_same _ _ _) (.inl ⟨rfl, rfl⟩)⟩
        · cases h
    · cases h
  · cases h

end
end Go.Ab
