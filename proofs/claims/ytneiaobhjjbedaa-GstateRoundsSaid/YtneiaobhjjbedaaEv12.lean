/- A part of the proof that what the evaluator says of a piece of code, the model does: no condition but those that each theorem states. -/
import Derived.Test.YtneiaobhjjbedaaEv11
namespace Go.Ab

section
variable {P : Program} {B ro : Nat} {ρ : Ren} {s : St} {w : World} {tm : T Value} {ac : Act}

theorem cellAt_lt {b : Blk} {j : Nat} {v : Value} (h : cellAt b j = some v) : j < b.n := by
  unfold cellAt at h
  cases hb : Nat.blt j b.n with
  | true => exact Nat.blt_eq.mp hb
  | false => rw [hb] at h; cases h

theorem growOf_some {elem : TypeId} {size sLen n : Nat} {a : Addr} {blk : Blk} {new : List Value} {r : Res} (hn : new.length = n * size) (h : growOf s elem size sLen (sLen + n) a blk new = some r) :
    ∃ b : Blk, r = .val (.slice (some ⟨s.next, 0, none⟩) (sLen + n) (sLen + n)) ⟨s.heap.set s.next (.cells b), s.next + 1⟩ ∧ b.n = (sLen + n) * size ∧ b.opn = true ∧ b.es = size ∧ b.str = blk.str ∧ b.dead = false ∧
      (∀ j, j < sLen * size → a.off + j < blk.n) ∧
      ∀ j v, cellAt b j = some v → (j < sLen * size ∧ cellAt blk (a.off + j) = some v) ∨ (sLen * size ≤ j ∧ new[j - sLen * size]? = some v) := by
  have hmul : (sLen + n) * size = sLen * size + n * size := Nat.add_mul _ _ _
  unfold growOf at h
  split at h
  · rename_i ho
    cases hb : Nat.ble (sLen * size) blk.n with
    | false => rw [hb] at h; cases h
    | true =>
      rw [hb] at h
      simp only [cond_true, T.setsK_eq, newObjK_eq] at h
      cases h
      have hle : sLen * size ≤ blk.n := by simpa using hb
      refine ⟨_, rfl, rfl, rfl, rfl, rfl, rfl, fun j hj => by omega, fun j v hj => ?_⟩
      have hlt := cellAt_lt hj
      simp only at hlt
      simp only [cellAt, T.get_sets] at hj
      rw [Nat.blt_eq.mpr hlt] at hj
      simp only [cond_true] at hj
      by_cases hj2 : sLen * size ≤ j ∧ j < sLen * size + new.length
      · rw [if_pos hj2] at hj
        rw [List.getElem?_eq_getElem (by omega)] at hj
        simp only at hj
        exact .inr ⟨hj2.1, by rw [List.getElem?_eq_getElem (by omega)]; exact hj⟩
      · rw [if_neg hj2] at hj
        refine .inl ⟨by omega, ?_⟩
        rw [ho, Nat.zero_add]
        simp only [cellAt]
        rw [Nat.blt_eq.mpr (show j < blk.n by omega)]
        exact hj
  · rename_i m ho
    split at h
    · cases h
    · rename_i old hold
      simp only [T.setsK_eq, newObjK_eq] at h
      cases h
      obtain ⟨h1, h2⟩ := cellsFrom_get _ _ _ _ hold
      refine ⟨_, rfl, rfl, rfl, rfl, rfl, rfl, fun j hj => ?_, fun j v hj => ?_⟩
      · have hj2 : j < old.length := by omega
        exact cellAt_lt (h2 j _ (List.getElem?_eq_getElem hj2))
      · have hlt := cellAt_lt hj
        simp only at hlt
        simp only [cellAt, T.get_sets, T.get_leaf] at hj
        rw [Nat.blt_eq.mpr hlt] at hj
        simp only [cond_true] at hj
        rw [if_pos (by simp; omega), Nat.sub_zero] at hj
        by_cases hj2 : j < sLen * size
        · rw [List.getElem?_append_left (by omega), List.getElem?_eq_getElem (by omega)] at hj
          simp only at hj
          exact .inl ⟨hj2, h2 j v (by rw [List.getElem?_eq_getElem (by omega)]; exact hj)⟩
        · rw [List.getElem?_append_right (by omega), h1, List.getElem?_eq_getElem (by omega)] at hj
          simp only at hj
          exact .inr ⟨by omega, by rw [List.getElem?_eq_getElem (by omega)]; exact hj⟩

/-- What a block's first cells are, known or not. -/
theorem cells_there {i : RI} {b : Blk} (h : CellsR ρ i b w) (o n : Nat) (hn : ∀ j, j < n → o + j < i.n) :
    ∃ l : List Value, l.length = n ∧ (∀ w' : World, w'.heap = w.heap → (loadCells ⟨i.b, i.r + o, none⟩ n).run P w' = .ok l.toArray w') ∧
      ∀ j v, j < n → cellAt b (o + j) = some v → ∃ v', l[j]? = some v' ∧ VR ρ v v' := by
  obtain ⟨cs, t, fr, h1, h2, h3, h4, h5, h6, h7⟩ := h
  have hin : ∀ j, j < n → i.r + o + j < cs.size := fun j hj => by have := hn j hj; omega
  refine ⟨(List.range n).map fun j => cs.getD (i.r + o + j) undef, by simp, fun w' hw' => ?_, fun j v hj hv => ?_⟩
  · refine run_loadCells_n _ _ _ _ (by simp) fun j v hv => ?_
    have hj : j < n := by
      have := (List.getElem?_eq_some_iff.1 hv).1
      simpa using this
    simp only [List.getElem?_map, List.getElem?_range hj, Option.map_some] at hv
    cases hv
    have := hin j hj
    simp [World.cell?, hw', h1, Array.getD, this]
  · obtain ⟨v', e1, e2⟩ := h7 _ _ hv
    refine ⟨v', ?_, e2⟩
    simp only [List.getElem?_map, List.getElem?_range hj, Option.map_some]
    have hlt := (Array.getElem?_eq_some_iff.1 e1).1
    rw [show i.r + (o + j) = i.r + o + j by omega] at e1 hlt
    rw [Array.getElem?_eq_getElem hlt] at e1
    simp [Array.getD, hlt, Option.some.inj e1]

theorem appendOf_sim (hr : Rel B ro ρ s.heap.get w) (hro : ro ≤ s.next) {ts : Array TypeId} {ty t elem : TypeId} {b x b' x' : Value} {r : Res} (h : appendOf P ro s elem b x = some r) (hb : VR ρ b b') (hx : VR ρ x x')
    (hu : P.underlying t = some (.slice elem)) (hts : ts[0]? = some t) (hx1 : ∀ u, ts[1]? = some u → ∃ d, P.underlying u = some d ∧ ∀ k, d ≠ .int k) (hfr : ∀ ν, s.next ≤ ν → ν < r.next s → ρ ν = none) :
    ∃ v s' ρ' w' v', r = .val v s' ∧ (Builtin.append_ ts ty #[b', x']).run P w = .ok v' w' ∧ Step B ro ρ s w ρ' s' w' ∧ VR ρ' v v' := by
  unfold appendOf at h
  split at h
  · rename_i ei base sLen sCap hei
    simp only at h
    split at h
    · cases h
    · rename_i n hn
      split at h
      · cases h
      · rename_i new hnew
        have hlen := lenOf_sim (P := P) (w := w) hx hn
        obtain ⟨new', g1', g2⟩ := firstL_sim (P := P) hr hx hnew hn (Nat.le_refl _)
        have g1 := g1' w rfl
        cases hroom : Nat.ble (sLen + n) sCap with
        | true =>
          rw [hroom] at h
          simp only [cond_true] at h
          have hroom : sLen + n ≤ sCap := by simpa using hroom
          cases base with
          | none =>
            simp only at h
            cases h
            refine ⟨_, _, ρ, w, .slice none (sLen + n) sCap, rfl, ?_, Step.refl hr, .slcNil _ _⟩
            rw [hb.slcNil_inv]
            exact run_room hu hei hts hx1 hlen hroom g1 (fun a e => by cases e) (fun _ => rfl)
          | some a =>
            simp only at h
            obtain ⟨hsp, i, o', cap', hi, he, hs⟩ := hb.slc_inv
            rw [hsp] at h
            simp only at h
            split at h
            · rename_i s' hst
              cases h
              obtain ⟨w', r1, r2⟩ := stCells_sim (P := P) hr hi hst g2
              have hcap : sCap ≤ cap' := by rcases hs with h | h | h <;> omega
              obtain ⟨ab, ao, asp⟩ := a
              simp only at hsp hi hs r1
              subst hsp
              refine ⟨_, _, ρ, w', .slice (some ⟨i.b, o', none⟩) (sLen + n) cap', rfl, ?_, r2, ?_⟩
              · rw [he]
                refine run_room hu hei hts hx1 hlen (by omega) g1 (fun a e => ?_) (fun e => by cases e)
                cases e
                rw [add_none]
                rcases hs with h | h | h
                · rw [h.1, show i.r + ao + sLen * ei.size = i.r + (ao + sLen * ei.size) by omega]; exact r1
                · rw [h.2.1, show i.r + ao + sLen * ei.size = i.r + (ao + sLen * ei.size) by omega]; exact r1
                · have hn0 : n = 0 := by omega
                  subst hn0
                  have hnil := firstL_zero hnew
                  subst hnil
                  have hnil' := L2.nil_left g2
                  subst hnil'
                  simp only [storeCells, Sem.run_pure] at r1 ⊢
                  exact r1
              · refine .slc (r2.le _ _ hi) ?_
                rcases hs with h | h | h
                · exact .inl h
                · exact .inr (.inl h)
                · exact .inr (.inr ⟨h.1, by omega, h.2.2.1, h.2.2.2.1, h.2.2.2.2.1, h.2.2.2.2.2⟩)
            · cases h
        | false =>
          rw [hroom] at h
          simp only [cond_false] at h
          have hroom : sCap < sLen + n := by
            rcases Nat.lt_or_ge sCap (sLen + n) with e | e
            · exact e
            · rw [Nat.ble_eq.mpr e] at hroom; cases hroom
          cases hlim : (Nat.blt 1000000000 (sLen + n) || Nat.blt 16384 ei.bytes || !new.all oneC || !Nat.beq new.length (n * ei.size)) with
          | true => rw [hlim] at h; cases h
          | false =>
            rw [hlim] at h
            simp only [cond_false] at h
            simp only [Bool.or_eq_false_iff, Bool.not_eq_false'] at hlim
            obtain ⟨⟨⟨k1, k2⟩, k3⟩, k4⟩ := hlim
            have k1 : sLen + n ≤ 1000000000 := by
              rcases Nat.lt_or_ge 1000000000 (sLen + n) with e | e
              · rw [Nat.blt_eq.mpr e] at k1; cases k1
              · exact e
            have k2 : ei.bytes ≤ 16384 := by
              rcases Nat.lt_or_ge 16384 ei.bytes with e | e
              · rw [Nat.blt_eq.mpr e] at k2; cases k2
              · exact e
            have k4 : new.length = n * ei.size := Nat.eq_of_beq_eq_true k4
            have k4' : new'.length = n * ei.size := by rw [← g2.length]; exact k4
            have k3 : ∀ v ∈ new', v.oneCell' = true := by
              intro u hu'
              obtain ⟨k, hk⟩ := List.mem_iff_getElem?.1 hu'
              have hk2 : k < new.length := by rw [g2.length]; exact (List.getElem?_eq_some_iff.1 hk).1
              obtain ⟨u', e1, e2⟩ := g2.get (i := k) (List.getElem?_eq_getElem hk2)
              rw [hk] at e1; cases e1
              exact oneC_rel e2 (List.all_eq_true.1 k3 _ (List.getElem_mem hk2))
            split at h
            · cases h
            · rename_i z hz
              obtain ⟨zv, z1, z2⟩ := zeroC_run hz
              cases hzl : Nat.beq z.length ei.size with
              | false => rw [hzl] at h; cases h
              | true =>
                rw [hzl] at h
                simp only [Bool.not_true, cond_false] at h
                have hzl : zv.cells.size = ei.size := by
                  have e1 := (z2 ρ).length
                  have e2 : z.length = ei.size := Nat.eq_of_beq_eq_true hzl
                  rw [← e2, e1]; simp
                have hzc : ∀ k, (Builtin.zeroCells zv.cells k).size = k * ei.size := fun k => by simp [Builtin.zeroCells, hzl]
                cases base with
                | none =>
                  simp only at h
                  cases hs0 : Nat.beq sLen 0 with
                  | false => rw [hs0] at h; cases h
                  | true =>
                    rw [hs0] at h
                    simp only [cond_true, newRow_eq] at h
                    cases h
                    have hs0 : sLen = 0 := Nat.eq_of_beq_eq_true hs0
                    subst hs0
                    have hf : ρ s.next = none := hfr _ (Nat.le_refl _) (by simp [Res.next])
                    obtain ⟨newCap, c1, c2⟩ := run_grow (base := none) (old := []) (ty := ty) hu hei hts hx1 hlen hroom k1 k2 (fun w' _ => rfl) g1' z1
                    refine ⟨_, _, _, w.drew.alloc (.cells (([] : List Value).toArray ++ (new'.toArray ++ Builtin.zeroCells zv.cells (newCap - (0 + n)))) elem), .slice (some ⟨w.heap.size, 0, none⟩) (0 + n) newCap, rfl, (by rw [hb.slcNil_inv]; exact c2), Step.newRow hr hro hf (vs' := new') (rest := (Builtin.zeroCells zv.cells (newCap - (0 + n))).toList) (t := elem) ?_ rfl rfl rfl g2 (fun e => by cases e), ?_⟩
                    · show w.heap.push _ = w.heap.push _
                      congr 2
                      apply Array.ext'; simp
                    · refine .slc (Ren.upd_same _ _ _) (.inr (.inl ⟨rfl, rfl, ?_, c1, ?_⟩))
                      · simp only [Nat.zero_add]; exact k4.symm
                      · simp only [List.length_append, Array.length_toList, hzc, k4']
                        rw [← Nat.add_mul, Nat.zero_add]
                        apply Nat.mul_le_mul_right
                        omega
                | some a =>
                  simp only at h
                  obtain ⟨hsp, i, o', cap', hi, he, hs⟩ := hb.slc_inv
                  rw [hsp] at h
                  simp only at h
                  split at h
                  · cases h
                  · rename_i blk hblk
                    obtain ⟨hb1, hb2⟩ := liveBlk_some hblk
                    obtain ⟨hC, hin, hio, hie⟩ := live_cells hr hb1 hb2 hi
                    have hC0 := hC
                    obtain ⟨cs, tt, fr, p1, p2, p3, p4, p5, p6, p7⟩ := hC0
                    -- the model makes a new row, and what it holds
                    have grown : ∀ (s1 : St) (w1 : World) (b1 : Blk), w1.heap = w.heap → w1.os = w.os → w1.tape = w.tape → w1.output = w.output → Rel B ro ρ s1.heap.get w → s1.next = s.next → ρ s.next = none →
                        b1.n = (sLen + n) * ei.size → b1.opn = true → b1.es = ei.size → b1.dead = false → (∀ j, j < sLen * ei.size → a.off + j < blk.n) →
                        (∀ j v, cellAt b1 j = some v → (j < sLen * ei.size ∧ cellAt blk (a.off + j) = some v) ∨ (sLen * ei.size ≤ j ∧ new[j - sLen * ei.size]? = some v)) → cap' < sLen + n →
                        ∃ ρ' w' v', (Builtin.append_ ts ty #[b', x']).run P w = .ok v' w' ∧ Step B ro ρ s1 w ρ' ⟨s1.heap.set s1.next (.cells b1), s1.next + 1⟩ w' ∧ VR ρ' (.slice (some ⟨s1.next, 0, none⟩) (sLen + n) (sLen + n)) v' := by
                      intro s1 w1 b1 _ _ _ _ hr1 hn1 hf q1 q2 q3 q4 q5 q6 q7
                      obtain ⟨old, o1, o2, o3⟩ := cells_there (P := P) hC a.off (sLen * ei.size) (fun j hj => by rw [hin]; exact q5 j hj)
                      have hold : ∀ w' : World, w'.heap = w.heap → (Builtin.firstCells ei.size sLen (.slice (some ⟨i.b, o', none⟩) sLen cap')).run P w' = .ok old.toArray w' := by
                        intro w' hw'
                        simp only [Builtin.firstCells]
                        rcases hs with h | h | h
                        · rw [h.1]; exact o2 w' hw'
                        · rw [h.2.1]; exact o2 w' hw'
                        · have h0 : sLen = 0 := h.2.1
                          subst h0
                          have : old = [] := by rw [← List.length_eq_zero_iff, o1]; simp
                          rw [this]; simp [loadCells, loadCellsFrom]
                      obtain ⟨newCap, c1, c2⟩ := run_grow (ty := ty) hu hei hts hx1 hlen q7 k1 k2 hold g1' z1
                      have hsz : (old.toArray ++ (new'.toArray ++ Builtin.zeroCells zv.cells (newCap - (sLen + n)))).size = newCap * ei.size := by
                        simp only [Array.size_append, List.size_toArray, hzc, o1, k4']
                        rw [← Nat.add_mul, ← Nat.add_mul]
                        congr 1; omega
                      have hf1 : ρ s1.next = none := by rw [hn1]; exact hf
                      refine ⟨_, w.drew.alloc (.cells (old.toArray ++ (new'.toArray ++ Builtin.zeroCells zv.cells (newCap - (sLen + n)))) elem), .slice (some ⟨w.heap.size, 0, none⟩) (sLen + n) newCap, (by rw [he]; exact c2), Step.newCells hr1 (by omega) hf1 (b := b1) (t := elem) (fr := (0, 0)) rfl rfl rfl rfl (.inl rfl) (fun _ => rfl) ?_ (fun e => by rw [q2] at e; cases e) ?_, ?_⟩
                      · rw [hsz, q1]; exact Nat.mul_le_mul_right _ c1
                      · intro j v hj
                        rcases q6 j v hj with ⟨d1, d2⟩ | ⟨d1, d2⟩
                        · obtain ⟨v', e1, e2⟩ := o3 j v d1 d2
                          refine ⟨v', ?_, e2⟩
                          rw [Array.getElem?_append_left (by simp; omega)]; simpa using e1
                        · obtain ⟨v', e1, e2⟩ := g2.get d2
                          refine ⟨v', ?_, e2⟩
                          have := (List.getElem?_eq_some_iff.1 e1).1
                          rw [Array.getElem?_append_right (by simp; omega), Array.getElem?_append_left (by simp; omega)]
                          simpa [o1] using e1
                      · refine .slc (Ren.upd_same _ _ _) (.inr (.inl ⟨q2, rfl, ?_, c1, ?_⟩))
                        · simp only; rw [q1, q3]; omega
                        · simp only; rw [hsz, q3]; omega
                    cases hexa : exactCap blk a.off sCap with
                    | true =>
                      rw [hexa] at h
                      simp only [cond_true] at h
                      have hcap : cap' = sCap := by
                        rcases hs with h | ⟨e1, _, e3, _⟩ | ⟨e1, _, e3, e4, _⟩
                        · exact h.2
                        · exact absurd (by rw [← hie, ← hin]; exact e3) (exactCap_true hexa (hio.symm.trans e1))
                        · exact absurd (by rw [← hie, ← hin, e3, e4]; omega) (exactCap_true hexa (hio.symm.trans e1))
                      obtain ⟨b1, rfl, q1, q2, q3, q4, q5, q6, q7⟩ := growOf_some k4 h
                      have hf : ρ s.next = none := hfr _ (Nat.le_refl _) (by simp [Res.next])
                      obtain ⟨ρ', w', v', r1, r2, r3⟩ := grown s w b1 rfl rfl rfl rfl hr rfl hf q1 q2 q3 q5 q6 q7 (by omega)
                      exact ⟨_, _, ρ', w', v', rfl, r1, r2, r3⟩
                    | false =>
                      rw [hexa] at h
                      simp only [cond_false] at h
                      obtain ⟨hopn, hend⟩ := exactCap_false hexa
                      cases hw2 : (Nat.ble ro a.block && Nat.beq blk.es ei.size) with
                      | false => rw [hw2] at h; cases h
                      | true =>
                        rw [hw2] at h
                        simp only [cond_true, setObjK_eq] at h
                        simp only [Bool.and_eq_true, Nat.ble_eq] at hw2
                        have hes : blk.es = ei.size := Nat.eq_of_beq_eq_true hw2.2
                        obtain ⟨b1, rfl, q1, q2, q3, q4, q5, q6, q7⟩ := growOf_some k4 h
                        have hf : ρ s.next = none := hfr _ (Nat.le_refl _) (by simp [Res.next])
                        by_cases hin2 : sLen + n ≤ cap'
                        · -- it has the room after all
                          have hbnd : o' + cap' * ei.size ≤ i.sz := by
                            rcases hs with h | h | h
                            · omega
                            · have := h.2.2.2.2; rw [hie, hes] at this; exact this
                            · have := h.2.2.2.2.2; rw [hie, hes] at this; exact this
                          have hmul : (sLen + n) * ei.size = sLen * ei.size + n * ei.size := Nat.add_mul _ _ _
                          have hmul2 : (sLen + n) * ei.size ≤ cap' * ei.size := Nat.mul_le_mul_right _ hin2
                          have hoff : sLen * ei.size = 0 ∨ o' = i.r + a.off := by
                            rcases hs with h | h | h
                            · exact .inr h.1
                            · exact .inr h.2.1
                            · left; rw [h.2.1]; simp
                          obtain ⟨w', cs', r1, r2, r3, r4, r5, r6, r7, r8, r9⟩ := run_stores (P := P) i.b (o' + sLen * ei.size) new' 0 w cs tt fr p1 (by rw [k4', p2]; omega) p4 k3
                          refine ⟨_, _, ρ.upd s.next ⟨i.b, o', (sLen + n) * ei.size, i.sz, ei.size, true⟩, w', .slice (some ⟨i.b, o', none⟩) (sLen + n) cap', rfl, ?_, ?_, ?_⟩
                          · rw [he]
                            exact run_room hu hei hts hx1 hlen hin2 g1 (fun a e => (by cases e; rw [add_none]; exact r1)) (fun e => (by cases e))
                          · refine Step.renew hr hro hf hw2.1 hi hb1 hb2 (i' := ⟨i.b, o', (sLen + n) * ei.size, i.sz, ei.size, true⟩) rfl r2 r3 r7 r8 r9 ⟨q1.symm, q2.symm, q3.symm, fun _ => ?_⟩
                            refine ⟨cs', tt, fr, r4, r5.trans p2, by simp only; omega, by rw [r5]; exact p4, (fun e => p5 (by rw [← q4]; exact e)), (fun e => by rw [q2] at e; cases e), fun j v hj => ?_⟩
                            simp only
                            rcases q7 j v hj with ⟨d1, d2⟩ | ⟨d1, d2⟩
                            · obtain ⟨v', e1, e2⟩ := p7 _ _ d2
                              refine ⟨v', ?_, e2.mono (Ren.le_upd _ hf)⟩
                              rw [r6, if_neg (by omega)]
                              rw [show o' + j = i.r + (a.off + j) by omega]; exact e1
                            · obtain ⟨v', e1, e2⟩ := g2.get d2
                              refine ⟨v', ?_, e2.mono (Ren.le_upd _ hf)⟩
                              have := (List.getElem?_eq_some_iff.1 e1).1
                              rw [r6, if_pos (by omega)]
                              rw [show o' + j - (o' + sLen * ei.size + 0) = j - sLen * ei.size by omega]; exact e1
                          · exact VR.slc (i := ⟨i.b, o', (sLen + n) * ei.size, i.sz, ei.size, true⟩) (Ren.upd_same _ _ _) (.inr (.inl ⟨rfl, rfl, Nat.zero_add _, hin2, hbnd⟩))
                        · have hkill := Step.turn (w' := w) (o' := .cells { blk with dead := true }) hr hw2.1 hi hb1 (by simp [AObj.alive, hb2]) rfl (fun _ _ => rfl) rfl rfl rfl ⟨hin, hio, hie, fun e => by cases e⟩
                          obtain ⟨ρ', w', v', r1, r2, r3⟩ := grown ⟨s.heap.set a.block (.cells { blk with dead := true }), s.next⟩ w b1 rfl rfl rfl rfl hkill.rel rfl hf q1 q2 q3 q5 q6 q7 (by omega)
                          exact ⟨_, _, ρ', w', v', rfl, r1, hkill.trans r2, r3⟩
  · cases h

end
end Go.Ab
