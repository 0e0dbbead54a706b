/- A part of the proof that what the evaluator says of a piece of code, the model does: no condition but those that each theorem states. -/
import Derived.Test.YtneiaobhjjbedaaEv2
import Derived.Laws.IdiomCopy
namespace Go.Ab

section
variable {P : Program} {B ro : Nat} {ρ : Ren} {s : St} {w : World}

theorem add_none (b o n : Nat) : (⟨b, o, none⟩ : Addr).add n = ⟨b, o + n, none⟩ := by
  unfold Addr.add
  split
  · subst_vars; rfl
  · rfl

theorem liveBlk_some {ν : Nat} {b : Blk} (h : liveBlk s ν = some b) : s.heap.get ν = some (.cells b) ∧ b.dead = false := by
  unfold liveBlk at h
  split at h
  · rename_i b' hb
    cases hd : b'.dead with
    | true => simp [hd] at h
    | false => simp [hd] at h; subst h; exact ⟨hb, hd⟩
  · cases h

theorem live_cells {H : Nat → Option AObj} (hr : Rel B ro ρ H w) {ν : Nat} {b : Blk} {i : RI} (hH : H ν = some (.cells b)) (hd : b.dead = false) (hi : ρ ν = some i) :
    CellsR ρ i b w ∧ i.n = b.n ∧ i.opn = b.opn ∧ i.es = b.es :=
  let h := hr.obj ν i _ hi hH
  ⟨h.2.2.2 hd, h.1, h.2.1, h.2.2.1⟩

theorem cells_get {i : RI} {b : Blk} (h : CellsR ρ i b w) {o : Nat} {v : Value} (hv : cellAt b o = some v) : ∃ v', w.cell? ⟨i.b, i.r + o, none⟩ = some v' ∧ VR ρ v v' := by
  obtain ⟨cs, t, fr, h1, h2, h3, h4, h5, h6, h7⟩ := h
  obtain ⟨v', e, hv'⟩ := h7 o v hv
  exact ⟨v', by simp [World.cell?, h1, e], hv'⟩

theorem ldCell_sim (hr : Rel B ro ρ s.heap.get w) {ν o : Nat} {v : Value} {i : RI} (hi : ρ ν = some i) (h : ldCell s ν o = some v) :
    ∃ v', w.cell? ⟨i.b, i.r + o, none⟩ = some v' ∧ VR ρ v v' := by
  unfold ldCell at h
  split at h
  · rename_i b hb
    obtain ⟨h1, h2⟩ := liveBlk_some hb
    exact cells_get (live_cells hr h1 h2 hi).1 h
  · cases h

theorem cellsFrom_get (b : Blk) : ∀ (n o : Nat) (l : List Value), cellsFrom b o n = some l → l.length = n ∧ ∀ j v, l[j]? = some v → cellAt b (o + j) = some v
  | 0, o, l, h => by
    simp [cellsFrom] at h; subst h; exact ⟨rfl, fun j v e => by simp at e⟩
  | n + 1, o, l, h => by
    simp only [cellsFrom] at h
    split at h
    · rename_i v hv
      split at h
      · rename_i r hr
        cases h
        obtain ⟨h1, h2⟩ := cellsFrom_get b n (o + 1) r hr
        refine ⟨by simp [h1], fun j u e => ?_⟩
        cases j with
        | zero => simp at e; subst e; exact hv
        | succ j => simp at e; have := h2 j u e; rwa [show o + (j + 1) = o + 1 + j by omega]
      · cases h
    · cases h

theorem cells_list {i : RI} {b : Blk} (h : CellsR ρ i b w) : ∀ (l : List Value) (o : Nat), (∀ j v, l[j]? = some v → cellAt b (o + j) = some v) →
    ∃ l', VRs ρ l l' ∧ ∀ j v, l'[j]? = some v → w.cell? ⟨i.b, i.r + o + j, none⟩ = some v
  | [], o, _ => ⟨[], .nil, fun j v e => by simp at e⟩
  | v :: l, o, hg => by
    obtain ⟨v', h1, h2⟩ := cells_get h (hg 0 v rfl)
    obtain ⟨l', h3, h4⟩ := cells_list h l (o + 1) fun j u e => by have := hg (j + 1) u (by simpa using e); rwa [show o + 1 + j = o + (j + 1) by omega]
    refine ⟨v' :: l', .cons h2 h3, fun j u e => ?_⟩
    cases j with
    | zero => simp at e; subst e; simpa using h1
    | succ j => simp at e; have := h4 j u e; rwa [show i.r + (o + 1) + j = i.r + o + (j + 1) by omega] at this

theorem ldCells_sim (hr : Rel B ro ρ s.heap.get w) {ν o n : Nat} {l : List Value} {i : RI} (hi : ρ ν = some i) (h : ldCells s ν o n = some l) :
    ∃ l', l'.length = n ∧ VRs ρ l l' ∧ ∀ j v, l'[j]? = some v → w.cell? ⟨i.b, i.r + o + j, none⟩ = some v := by
  cases n with
  | zero => simp [ldCells] at h; subst h; exact ⟨[], rfl, .nil, fun j v e => by simp at e⟩
  | succ n =>
    simp only [ldCells] at h
    split at h
    · rename_i b hb
      obtain ⟨h1, h2⟩ := liveBlk_some hb
      obtain ⟨g1, g2⟩ := cellsFrom_get b _ _ _ h
      obtain ⟨l', a, c⟩ := cells_list (live_cells hr h1 h2 hi).1 l o g2
      exact ⟨l', by rw [← a.length, g1], a, c⟩
    · cases h

theorem run_und {t : TypeId} {d : TypeDesc} (h : P.underlying t = some d) : (underlying t).run P w = .ok d w := run_underlying h w

theorem szOf_some {t : TypeId} {n : Nat} (h : szOf P t = some n) : ∃ i, P.info? t = some i ∧ i.size = n := by
  unfold szOf at h
  split at h
  · rename_i i hi; cases h; exact ⟨i, hi, rfl⟩
  · cases h

theorem run_typeInfo' {t : TypeId} {i : TypeInfo} (h : P.info? t = some i) : (typeInfo t).run P w = .ok i w := by
  simp [typeInfo, h]

theorem run_sizeOf' {t : TypeId} {n : Nat} (h : szOf P t = some n) : (sizeOf t).run P w = .ok n w := by
  obtain ⟨i, hi, rfl⟩ := szOf_some h
  simp [sizeOf, run_typeInfo' hi]

theorem isAg_some {t : TypeId} {b : Bool} (h : isAg P t = some b) : (isAgg t).run P w = .ok b w := by
  unfold isAg at h
  split at h
  · rename_i u hu; cases h; simp [isAgg, run_und hu]
  · rename_i u v hu; cases h; simp [isAgg, run_und hu]
  · rename_i u h1 h2 hu
    cases h
    simp only [isAgg, Sem.run_bind, run_und hu, Result.andThen_ok]
    rfl
  · cases h

theorem run_loadCells' (b o : Nat) (l : List Value) (h : ∀ j v, l[j]? = some v → w.cell? ⟨b, o + j, none⟩ = some v) :
    (loadCells ⟨b, o, none⟩ l.length).run P w = .ok l.toArray w :=
  run_loadCells_list w _ _ fun j v e => by rw [add_none]; exact h j v e

theorem run_loadCells_n (b o n : Nat) (l : List Value) (hn : l.length = n) (h : ∀ j v, l[j]? = some v → w.cell? ⟨b, o + j, none⟩ = some v) :
    (loadCells ⟨b, o, none⟩ n).run P w = .ok l.toArray w := by subst hn; exact run_loadCells' b o l h

theorem ldVar_sim (hr : Rel B ro ρ s.heap.get w) {t : TypeId} {ν o : Nat} {sp : Option Nat} {v : Value} {a' : Addr} (h : ldVar P s t ⟨ν, o, sp⟩ = some v)
    (ha : VR ρ (.pointer (some ⟨ν, o, sp⟩)) (.pointer (some a'))) : ∃ v', (loadVar t a').run P w = .ok v' w ∧ VR ρ v v' := by
  cases ha with
  | ptr hi =>
    rename_i i
    simp only [ldVar] at h
    split at h
    · rename_i hag
      split at h
      · rename_i n hn
        split at h
        · rename_i l hl
          cases h
          obtain ⟨l', h1, h2, h3⟩ := ldCells_sim hr hi hl
          refine ⟨.agg l'.toArray, ?_, VR.agg_of h2⟩
          simp only [loadVar, Sem.run_bind, isAg_some hag, Result.andThen_ok, if_true, run_sizeOf' hn, run_loadCells_n _ _ _ l' h1 h3, Sem.run_pure]
        · cases h
      · cases h
    · rename_i hag
      obtain ⟨v', h1, h2⟩ := ldCell_sim hr hi h
      refine ⟨v', ?_, h2⟩
      simp [loadVar, isAg_some hag, h1]
    · cases h

theorem oneC_rel {v v' : Value} (h : VR ρ v v') (ho : oneC v = true) : v'.oneCell' = true := by
  cases h <;> simp [oneC] at ho <;> rfl

/-- A run of stores into one block. -/
theorem run_stores (b off : Nat) : ∀ (vs : List Value) (i : Nat) (w : World) (cs : Array Value) (t : TypeId) (fr : Nat × Nat), w.heap[b]? = some (.cells cs t fr) → off + i + vs.length ≤ cs.size →
    (fr.1 = fr.2 ∨ cs.size ≤ fr.1) → (∀ v ∈ vs, v.oneCell' = true) →
    ∃ w' cs', (storeCells ⟨b, off, none⟩ vs i).run P w = .ok () w' ∧ w'.heap.size = w.heap.size ∧ (∀ k, k ≠ b → w'.heap[k]? = w.heap[k]?) ∧ w'.heap[b]? = some (.cells cs' t fr) ∧ cs'.size = cs.size ∧
      (∀ j, cs'[j]? = if off + i ≤ j ∧ j < off + i + vs.length then vs[j - (off + i)]? else cs[j]?) ∧ w'.os = w.os ∧ w'.tape = w.tape ∧ w'.output = w.output
  | [], i, w, cs, t, fr, h, hs, hf, ho => ⟨w, cs, by simp [storeCells], rfl, fun _ _ => rfl, h, rfl, fun j => by rw [if_neg (by simp)], rfl, rfl, rfl⟩
  | v :: vs, i, w, cs, t, fr, h, hs, hf, ho => by
    simp only [List.length_cons] at hs
    have hlt : off + i < cs.size := by omega
    have hcell : w.cell? ⟨b, off + i, none⟩ = some cs[off + i] := by simp [World.cell?, h, hlt]
    have hfz : w.frozen? ⟨b, off + i, none⟩ = false := by
      simp only [World.frozen?, h]
      rcases hf with hf | hf
      · simp; omega
      · simp; omega
    have hb1 : (w.setCell ⟨b, off + i, none⟩ v).heap[b]? = some (.cells (cs.setIfInBounds (off + i) v) t fr) := by
      simp [World.setCell, Array.getElem?_modify, h]
    obtain ⟨w', cs', r1, r2, r3, r4, r5, r6, r7, r8, r9⟩ := run_stores b off vs (i + 1) (w.setCell ⟨b, off + i, none⟩ v) _ t fr hb1 (by simp; omega) (by simpa using hf) fun u hu => ho u (by simp [hu])
    refine ⟨w', cs', ?_, by rw [r2]; simp, fun k hk => ?_, r4, by rw [r5]; simp, fun j => ?_, r7, r8, r9⟩
    · simp only [storeCells, Sem.run_bind, add_none, run_store P w _ v .plain (ho v (by simp)), hcell, hfz, Bool.false_eq_true, if_false, Result.andThen_ok, r1]
    · rw [r3 k hk]; simp only [World.setCell, Array.getElem?_modify]; rw [if_neg (by simpa using fun e => hk e.symm)]
    · rw [r6, Array.getElem?_setIfInBounds]
      by_cases hj : off + i = j
      · subst hj
        rw [if_neg (by omega), if_pos rfl, if_pos hlt, if_pos (by simp)]; simp
      · rw [if_neg hj]
        by_cases h2 : off + (i + 1) ≤ j ∧ j < off + (i + 1) + vs.length
        · rw [if_pos h2, if_pos (by simp; omega)]
          obtain ⟨d, rfl⟩ : ∃ d, j = off + (i + 1) + d := ⟨j - (off + (i + 1)), by omega⟩
          have e1 : off + (i + 1) + d - (off + (i + 1)) = d := by omega
          have e2 : off + (i + 1) + d - (off + i) = d + 1 := by omega
          rw [e1, e2]; simp
        · rw [if_neg h2, if_neg (by simp; omega)]

theorem cellAt_sets {b : Blk} {vs : List Value} {o j : Nat} {v : Value} (hle : o + vs.length ≤ b.n) (h : cellAt { b with cells := T.sets vs o b.cells } j = some v) :
    (o ≤ j ∧ j < o + vs.length ∧ vs[j - o]? = some v) ∨ (¬ (o ≤ j ∧ j < o + vs.length) ∧ cellAt b j = some v) := by
  simp only [cellAt, T.get_sets] at h
  by_cases hj : o ≤ j ∧ j < o + vs.length
  · have hlt : Nat.blt j b.n = true := by simp [Nat.blt_eq]; omega
    rw [if_pos hj, hlt] at h
    have hsome : vs[j - o]? = some vs[j - o] := List.getElem?_eq_getElem (by omega)
    rw [hsome] at h
    simp at h
    exact .inl ⟨hj.1, hj.2, by rw [hsome, h]⟩
  · rw [if_neg hj] at h
    exact .inr ⟨hj, h⟩

theorem stCells_sim (hr : Rel B ro ρ s.heap.get w) {ν o : Nat} {vs vs' : List Value} {s' : St} {i : RI} (hi : ρ ν = some i) (h : stCells ro s ν o vs = some s') (hv : VRs ρ vs vs') :
    ∃ w', (storeCells ⟨i.b, i.r + o, none⟩ vs' 0).run P w = .ok () w' ∧ Step B ro ρ s w ρ s' w' := by
  cases vs with
  | nil =>
    simp [stCells] at h; subst h
    rw [L2.nil_left hv]
    exact ⟨w, by simp [storeCells], Step.refl hr⟩
  | cons v l =>
    simp only [stCells] at h
    split at h
    · rename_i b hb
      obtain ⟨hb1, hb2⟩ := liveBlk_some hb
      cases hc : (Nat.ble ro ν && Nat.ble (o + (v :: l).length) b.n && (v :: l).all oneC) with
      | false => rw [hc] at h; cases h
      | true =>
        rw [hc] at h
        simp only [cond_true, T.setsK_eq, setObjK, T.setK_set] at h
        cases h
        simp only [Bool.and_eq_true, Nat.ble_eq, List.all_eq_true] at hc
        obtain ⟨⟨hc1, hc2⟩, hc3⟩ := hc
        obtain ⟨hC, hn, ho, he⟩ := live_cells hr hb1 hb2 hi
        obtain ⟨cs, t, fr, h1, h2, h3, h4, h5, h6, h7⟩ := hC
        have hlen := hv.length
        obtain ⟨w', cs', r1, r2, r3, r4, r5, r6, r7, r8, r9⟩ := run_stores (P := P) i.b (i.r + o) vs' 0 w cs t fr h1 (by rw [← hlen]; omega) h4 (by
          intro u hu
          obtain ⟨k, hk⟩ := List.mem_iff_getElem?.1 hu
          have hk2 : k < (v :: l).length := by rw [hlen]; exact (List.getElem?_eq_some_iff.1 hk).1
          obtain ⟨u', e1, e2⟩ := hv.get (i := k) (List.getElem?_eq_getElem hk2)
          rw [hk] at e1; cases e1
          exact oneC_rel e2 (hc3 _ (List.getElem_mem hk2)))
        refine ⟨w', r1, Step.turn hr hc1 hi hb1 (by simp [AObj.alive, hb2]) r2 r3 r7 r8 r9 ⟨hn, ho, he, fun _ => ?_⟩⟩
        refine ⟨cs', t, fr, r4, r5.trans h2, h3, by rw [r5]; exact h4, h5, h6, fun j u hu => ?_⟩
        rcases cellAt_sets hc2 hu with ⟨a1, a2, a3⟩ | ⟨a1, a2⟩
        · obtain ⟨u', e1, e2⟩ := hv.get a3
          refine ⟨u', ?_, e2⟩
          rw [r6, if_pos (by rw [← hlen]; omega)]
          rw [show i.r + j - (i.r + o + 0) = j - o by omega]; exact e1
        · obtain ⟨u', e1, e2⟩ := h7 j u a2
          refine ⟨u', ?_, e2⟩
          rw [r6, if_neg (by rw [← hlen]; omega)]; exact e1
    · cases h

theorem stVar_sim (hr : Rel B ro ρ s.heap.get w) {t : TypeId} {ν o : Nat} {sp : Option Nat} {v v' : Value} {a' : Addr} {s' : St} (h : stVar P ro s t ⟨ν, o, sp⟩ v = some s')
    (ha : VR ρ (.pointer (some ⟨ν, o, sp⟩)) (.pointer (some a'))) (hv : VR ρ v v') : ∃ w', (storeVar t a' v').run P w = .ok () w' ∧ Step B ro ρ s w ρ s' w' := by
  cases ha with
  | ptr hi =>
    rename_i i
    simp only [stVar] at h
    split at h
    · rename_i n hn
      split at h
      · cases h
      · rename_i l hl
        have hc := cellsV_rel hv hl
        cases hb : Nat.beq l.length n with
        | false => rw [hb] at h; cases h
        | true =>
          rw [hb] at h
          simp only [cond_true] at h
          have hb' : l.length = n := by simpa using hb
          obtain ⟨w', h1, h2⟩ := stCells_sim (P := P) hr hi h hc
          refine ⟨w', ?_, h2⟩
          have hsz : v'.cells.size = n := by rw [← hb', hc.length]; simp
          simp [storeVar, run_sizeOf' hn, hsz, h1]
    · cases h

end
end Go.Ab
