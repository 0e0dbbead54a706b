/- A part of the proof that what the evaluator says of a piece of code, the model does: no condition but those that each theorem states. -/
import Derived.Test.YtneiaobhjjbedaaEv7
import Derived.Laws.MakeOwn
namespace Go.Ab

section
variable {P : Program} {B ro : Nat} {ρ : Ren} {s : St} {w : World} {tm : T Value} {ac : Act}

/-! ### Conversions -/

theorem bytesOfCells_some : ∀ (l : List Value) (b : List UInt8), bytesOfCells l = some b → ∃ ns : List Int, l = ns.map (Value.int .u8) ∧ b = ns.map fun n => UInt8.ofNat n.toNat
  | [], b, h => by simp [bytesOfCells] at h; subst h; exact ⟨[], rfl, rfl⟩
  | v :: l, b, h => by
    unfold bytesOfCells at h
    split at h
    · cases ‹v :: l = []›
    · rename_i n l' heq
      cases heq
      split at h
      · rename_i r hr
        cases h
        obtain ⟨ns, h1, h2⟩ := bytesOfCells_some _ _ hr
        exact ⟨Int.ofNat n :: ns, by rw [h1]; rfl, by rw [h2]; rfl⟩
      · cases h
    · cases h

theorem vrs_ints {ns : List Int} {l : List Value} (h : VRs ρ (ns.map (Value.int .u8)) l) : l = ns.map (Value.int .u8) := by
  induction ns generalizing l with
  | nil => exact L2.nil_left h
  | cons n ns ih =>
    obtain ⟨b, m', rfl, h1, h2⟩ := L2.cons_left h
    rw [h1.int_inv, ih h2]; rfl

theorem vrs_ints_refl (ns : List Int) : VRs ρ (ns.map (Value.int .u8)) (ns.map (Value.int .u8)) := L2.map_same fun _ _ => .int _ _

theorem ok_convert {o : Oper} {src dst : TypeId} {x : Operand} {r : Res} (ho : o.op = .convert src dst x) (h : evalOp P ro tm o.op s = some r) : OpOk P B ro tm o s r := by
  intro ρ w ac hr ht hro hfr
  rw [ho] at h; simp only [evalOp] at h
  have hx := opv_rel ht x
  have hex : (execOp ac.eval o).run P w = ((convert src dst (ac.eval x)).run P w).andThen fun v w' => .ok (.value v) w' := by simp [execOp, ho]
  rw [hex]
  unfold convOf at h
  split at h
  · rename_i u k k' n h1 h2 ha
    cases h
    rw [ha] at hx
    refine .same hr (v' := .int k (k.wrap n)) ?_ (by rw [wrapK_eq]; exact .int _ _)
    rw [hx.int_inv]
    simp [convert, run_und h1, run_und h2, Conv.intToInt]
  · rename_i u k' n h1 h2 ha
    cases h
    rw [ha] at hx
    refine .same hr (v' := .string (Utf8.encode n)) ?_ (.string _)
    rw [hx.int_inv]
    simp [convert, run_und h1, run_und h2, Conv.intToString]
  · rename_i u b h1 h2 ha
    cases h
    rw [ha] at hx
    refine .same hr (v' := .string b) ?_ (.string _)
    rw [hx.string_inv]
    simp [convert, run_und h1, run_und h2]
  · rename_i u e b h1 h2 ha
    rw [ha] at hx
    split at h
    · rename_i h3
      simp only [T.setsK_eq, newObjK_eq] at h
      cases h
      have hf : ρ s.next = none := hfr _ (Nat.le_refl _) (by simp [Res.next])
      have hl : b.data.toList.length = b.size := by rw [Array.length_toList]; rfl
      have hrun := Lib.run_convert_string_bytes (P := P) w src dst e b h1 h2 h3
      have hcap : b.size ≤ grownCap w b.size 0 e := by simp only [grownCap, Question.cut]; omega
      have hcs : (Lib.bytesCells w e b).toList = (b.data.toList.map fun c => Value.int .u8 (.ofNat c.toNat)) ++ List.replicate (grownCap w b.size 0 e - b.size) (.int .u8 0) := by
        simp [Lib.bytesCells]
      have hsz : (Lib.bytesCells w e b).size = grownCap w b.size 0 e := by
        rw [← Array.length_toList, hcs]; simp; omega
      rw [hx.string_inv, hrun]
      refine ⟨_, _, _, .inl rfl, Step.newCells hr hro hf (b := { cells := T.sets (b.data.toList.map fun c => Value.int .u8 (.ofNat c.toNat)) 0 .leaf, n := (b.data.toList.map fun c => Value.int .u8 (.ofNat c.toNat)).length, z := [], elem := e, opn := true, es := 1, str := true, dead := false })
        (cs := Lib.bytesCells w e b) (t := e) (fr := ((Lib.bytesCells w e b).size, (Lib.bytesCells w e b).size + 1)) ?_ rfl rfl rfl (.inr (Nat.le_refl _)) (fun h => by cases h) ?_ (fun h => by cases h) ?_, ?_⟩
      · apply Array.ext_getElem?
        intro k
        rw [Array.getElem?_push]
        by_cases hk : k = w.heap.size
        · rw [if_pos hk, hk]; exact Lib.bytesWorld_at_new w e b
        · rw [if_neg hk]
          by_cases hk2 : k < w.heap.size
          · exact Lib.bytesWorld_at_old w e b k hk2
          · rw [Array.getElem?_eq_none (by rw [Lib.bytesWorld_size]; omega), Array.getElem?_eq_none (by omega)]
      · simp only [List.length_map]; rw [hsz, hl]; exact hcap
      · intro j v hj
        have hj' := cellAt_row hj
        refine ⟨v, ?_, ?_⟩
        · rw [← Array.getElem?_toList, hcs, List.getElem?_append_left (List.getElem?_eq_some_iff.1 hj').1]; exact hj'
        · obtain ⟨c, _, rfl⟩ := List.mem_map.1 (List.mem_of_getElem? hj')
          exact .int _ _
      · rw [show b.size = (b.data.toList.map fun c => Value.int .u8 (.ofNat c.toNat)).length by simp [hl]]
        refine .slc (Ren.upd_same _ _ _) (.inr (.inl ⟨rfl, by simp, by simp, ?_, ?_⟩))
        · simp only [List.length_map]; rw [hl]; simpa [hl] using hcap
        · simp only [List.length_map, Nat.mul_one, Nat.zero_add, hl]; rw [hsz]; exact Nat.le_refl _
    · cases h
  · rename_i e base len cap h1 h2 ha
    rw [ha] at hx
    split at h
    · rename_i h3
      split at h
      · cases h
        refine .same hr (v' := .string .empty) ?_ (.string _)
        rw [hx.slcNil_inv, run_convert_bytes_string w src dst e none len cap h1 h3 h2]
        simp [Conv.bytesToString]
      · rename_i a
        obtain ⟨hsp, q, o', cap', hq, he, hs⟩ := hx.slc_inv
        rw [hsp] at h
        simp only at h
        split at h
        · rename_i l hl
          split at h
          · rename_i bs hbs
            cases h
            obtain ⟨ns, n1, n2⟩ := bytesOfCells_some _ _ hbs
            obtain ⟨l', l1, l2, l3⟩ := ldCells_sim hr hq hl
            rw [n1] at l2
            have l4 := vrs_ints l2
            have hload : (loadCells ⟨q.b, o', none⟩ len).run P w = .ok (ns.map (Value.int .u8)).toArray w := by
              rcases hs with h | h | h
              · rw [h.1, ← l4]; exact run_loadCells_n _ _ _ l' l1 l3
              · rw [h.2.1, ← l4]; exact run_loadCells_n _ _ _ l' l1 l3
              · have h0 : len = 0 := h.2.1
                have : l' = [] := by rw [← List.length_eq_zero_iff, l1, h0]
                rw [← l4, this, h0]; simp [loadCells, loadCellsFrom]
            refine .same hr (v' := .string ⟨bs.toArray⟩) ?_ (.string _)
            rw [he, run_convert_bytes_string w src dst e _ len cap' h1 h3 h2, run_bytesToString w _ len cap' ns hload, foldl_push_bytes]
            simp only [Result.andThen_ok, n2]
            congr 3
            apply ByteArray.ext
            simp
          · cases h
        · cases h
    · cases h
  · rename_i e0 e a len cap h1 h2 ha
    rw [ha] at hx
    cases hb : Nat.beq src dst with
    | false => rw [hb] at h; cases h
    | true =>
      rw [hb] at h
      simp only [cond_true] at h
      have hsd : src = dst := Nat.eq_of_beq_eq_true hb
      split at h
      · rename_i h3
        split at h
        · rename_i blk hblk
          obtain ⟨hb1, hb2⟩ := liveBlk_some hblk
          cases hro2 : Nat.ble ro a.block with
          | false => rw [hro2] at h; cases h
          | true =>
            rw [hro2] at h
            simp only [cond_true, setObjK_eq] at h
            cases h
            have hro2 : ro ≤ a.block := by simpa using hro2
            obtain ⟨hsp, q, o', cap', hq, he, hs⟩ := hx.slc_inv
            obtain ⟨hC, hn, hop, hes⟩ := live_cells hr hb1 hb2 hq
            obtain ⟨cs, t, fr, p1, p2, p3, p4, p5, p6, p7⟩ := hC
            have hsh : w.shape? q.b = some (t, cs.size) := by simp [World.shape?, p1]
            have hrun : (convert src dst (.slice (some ⟨q.b, o', none⟩) len cap')).run P w = .ok (.slice (some ⟨q.b, o', none⟩) len cap') (w.freeze ⟨q.b, cs.size, none⟩ 1) := by
              subst hsd
              rw [h1] at h2; cases h2
              simp [convert, run_und h1, run_und h3, markStringish, hsh]
            refine ⟨ρ, w.freeze ⟨q.b, cs.size, none⟩ 1, .slice (some ⟨q.b, o', none⟩) len cap', .inl (by rw [he, hrun]; rfl), ?_, by rw [he] at hx; exact hx⟩
            refine Step.turn hr hro2 hq hb1 (by simp [AObj.alive, hb2]) (by simp [World.freeze]) (fun k hk => ?_) rfl rfl rfl ⟨hn, hop, hes, fun _ => ?_⟩
            · simp only [World.freeze, Nat.one_ne_zero, if_false, Array.getElem?_modify]
              rw [if_neg (fun e => hk e.symm)]
            · refine ⟨cs, t, (if fr.1 == fr.2 then (cs.size, cs.size + 1) else (min fr.1 cs.size, max fr.2 (cs.size + 1))), ?_, p2, p3, .inr ?_, (fun e => by cases e), p6, p7⟩
              · simp only [World.freeze, Nat.one_ne_zero, if_false, Array.getElem?_modify, if_true, p1, Option.map_some]
              · split
                · exact Nat.le_refl _
                · rename_i hne
                  have : cs.size ≤ fr.1 := p4.resolve_left (by simpa using hne)
                  simp only
                  omega
        · cases h
      · cases h
  · cases h

/-! ### Slices that are made -/

theorem i64max : IntKind.i64.max = 9223372036854775807 := rfl

set_option maxRecDepth 20000 in
theorem ok_makeSlice {o : Oper} {t : TypeId} {x y : Operand} {r : Res} (ho : o.op = .makeSlice t x y) (h : evalOp P ro tm o.op s = some r) : OpOk P B ro tm o s r := by
  intro ρ w ac hr ht hro hfr
  rw [ho] at h; simp only [evalOp] at h
  have hx := opv_rel ht x
  have hy := opv_rel ht y
  split at h
  · rename_i elem k l k' c hu hl hc
    rw [hl] at hx; rw [hc] at hy
    split at h
    · rename_i n z i hn hz hi
      cases hb : (Nat.ble l c && Nat.ble c 1000000000 && Nat.ble i.bytes 100000 && Nat.beq z.length n) with
      | false => rw [hb] at h; cases h
      | true =>
        rw [hb] at h
        simp only [cond_true, newObjK_eq] at h
        cases h
        simp only [Bool.and_eq_true, Nat.ble_eq] at hb
        obtain ⟨⟨⟨b1, b2⟩, b3⟩, b4⟩ := hb
        have b4 : z.length = n := Nat.eq_of_beq_eq_true b4
        have hf : ρ s.next = none := hfr _ (Nat.le_refl _) (by simp [Res.next])
        obtain ⟨zv, z1, z2⟩ := zeroC_run hz
        have hzl := (z2 ρ).length
        have hbc : (i.bytes : Int) * (c : Int) ≤ 281474976710656 := by
          have h1 : i.bytes * c ≤ 100000 * 1000000000 := Nat.mul_le_mul b3 b2
          have h2 : ((i.bytes * c : Nat) : Int) ≤ 281474976710656 := by omega
          rwa [Int.natCast_mul] at h2
        obtain ⟨i2, zv0, hi2, hz0, _, hcv⟩ := zeroC_some hz
        rw [hi] at hi2; cases hi2
        have hzv : zv0 = zv := by
          have := z1 w
          simp [zeroValue, run_typeInfo' hi, hz0] at this
          exact this
        subst hzv
        have hsize : i.size = n := by obtain ⟨i3, h3, h4⟩ := szOf_some hn; rw [hi] at h3; cases h3; exact h4
        have hmk := run_make (P := P) w t elem i zv0 hu hi hz0 k k' (l : Int) (c : Int) (by omega) (by omega) hbc (by omega)
        simp only [Int.toNat_natCast, hsize] at hmk
        have hcells : (execOp ac.eval o).run P w = .ok (.value (.slice (some ⟨w.heap.size, 0, none⟩) l c)) (w.alloc (.cells (madeCells zv0.cells (c * n)) elem)) := by
          simp only [execOp, ho, Sem.run_bind, hx.int_inv, hy.int_inv]
          have e1 : Int.ofNat l = (l : Int) := rfl
          have e2 : Int.ofNat c = (c : Int) := rfl
          rw [e1, e2, hmk]; rfl
        rw [hcells]
        refine ⟨_, _, _, .inl rfl, Step.newCells hr hro hf (b := { cells := .leaf, n := c * n, z := z, elem, opn := false, es := 0, str := false, dead := false }) (t := elem) (fr := (0, 0)) rfl rfl rfl rfl (.inl rfl) (fun _ => rfl) (by rw [size_madeCells]; exact Nat.le_refl _) (fun _ => size_madeCells _ _) ?_, .slc (Ren.upd_same _ _ _) (.inl ⟨rfl, rfl⟩)⟩
        intro j v hj
        simp only [cellAt, T.get_leaf] at hj
        cases hlt : Nat.blt j (c * n) with
        | false => rw [hlt] at hj; cases hj
        | true =>
          rw [hlt] at hj
          simp only [cond_true, nth_eq] at hj
          have hlt : j < c * n := by simpa [Nat.blt_eq] using hlt
          obtain ⟨v', v1, v2⟩ := (z2 ρ).get hj
          refine ⟨v', ?_, v2⟩
          have hsz : zv0.cells.size = z.length := by rw [hzl]; simp
          simp only [madeCells]
          rw [Array.getElem?_map, Array.getElem?_range, if_pos hlt]
          simp only [Option.map_some]
          rw [hsz]
          rw [Array.getElem?_toList] at v1
          rw [getElem!_def, v1]
    · cases h
  · cases h

end
end Go.Ab
