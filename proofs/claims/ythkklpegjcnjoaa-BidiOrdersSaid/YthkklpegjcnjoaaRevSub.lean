/- What slices.Reverse does to a part of a row of the call's own: the part is turned round, the rest stays: no condition but that the part lies in the row. -/
import Derived.Test.YthkklpegjcnjoaaProg
import Derived.Test.YthkklpegjcnjoaaWMore
import Derived.Test.YthkklpegjcnjoaaWKept
import Derived.Test.YthkklpegjcnjoaaWWords
import Derived.Test.YthkklpegjcnjoaaShelf
import Derived.Lib.OwnBridge
namespace Go.Proofs.Ythkklpegjcnjoaa
open Go.RowKit Go.Lib Go.Sort Go.Proofs.YthkklpegjcnjoaaW.PrintWords Go.Proofs.YthkklpegjcnjoaaW.PrintLast Go.Proofs.YthkklpegjcnjoaaW.PrintMore
set_option linter.unusedVariables false
set_option linter.unusedSimpArgs false

theorem seg_get (xs ys : List Int) (a : Nat) (hl : a + ys.length ≤ xs.length) (j : Nat) (hj : j < xs.length) :
    (xs.take a ++ ys ++ xs.drop (a + ys.length))[j]? = if a ≤ j ∧ j < a + ys.length then ys[j - a]? else xs[j]? := by
  rw [List.append_assoc, List.getElem?_append, List.length_take, List.getElem?_append]
  by_cases h1 : j < a
  · rw [if_pos (by omega), if_neg (by omega), List.getElem?_take, if_pos h1]
  · rw [if_neg (by omega)]
    by_cases h2 : j < a + ys.length
    · rw [if_pos (by omega), if_pos (by omega)]
      congr 1
      omega
    · rw [if_neg (by omega), if_neg (by omega), List.getElem?_drop]
      congr 1
      omega

theorem putRow_seg {w : World} {g a q : Nat} {xs ys : List Int} (hH : Holds (Value.int .i64) w g 0 xs.toArray) (hl : a + ys.length ≤ xs.length) :
    putRow (Value.int .i64) (Sort.ahead w q) g a ys.toArray = putRow (Value.int .i64) (Sort.ahead w q) g 0 (xs.take a ++ ys ++ xs.drop (a + ys.length)).toArray := by
  unfold putRow
  refine mapBlock_congr _ _ _ _ fun c e fr hc => ?_
  have hc2 : w.heap[g]? = some (.cells c e fr) := hc
  have hwl : (xs.take a ++ ys ++ xs.drop (a + ys.length)).length = xs.length := by simp only [List.length_append, List.length_take, List.length_drop]; omega
  apply Array.ext_getElem?
  intro j
  simp only [putCells, Array.getElem?_mapIdx]
  cases hj : c[j]? with
  | none => rfl
  | some x =>
    simp only [Option.map_some, List.size_toArray, hwl, Nat.zero_le, true_and, Nat.zero_add, Nat.sub_zero]
    congr 1
    by_cases h1 : j < xs.length
    · rw [if_pos h1]
      have hx : x = Value.int .i64 (xs.toArray[j]!) := by
        have := (hH j (by simpa using h1)).1
        simp only [World.cell?, hc2, Nat.zero_add, Option.isSome_none, Bool.false_eq_true, if_false] at this
        rw [hj] at this
        injection this
      have hk := seg_get xs ys a hl j h1
      rw [List.getElem?_eq_getElem (by rw [hwl]; exact h1)] at hk
      by_cases h2 : a ≤ j ∧ j < a + ys.length
      · rw [if_pos h2]
        rw [if_pos h2, List.getElem?_eq_getElem (by omega)] at hk
        injection hk with hk
        congr 1
        rw [getElem!_pos _ _ (by simp; omega), getElem!_pos _ _ (by rw [List.size_toArray, hwl]; exact h1)]
        simp only [List.getElem_toArray]
        exact hk.symm
      · rw [if_neg h2, hx]
        rw [if_neg h2, List.getElem?_eq_getElem h1] at hk
        injection hk with hk
        congr 1
        rw [getElem!_pos _ _ (by simpa using h1), getElem!_pos _ _ (by rw [List.size_toArray, hwl]; exact h1)]
        simp only [List.getElem_toArray]
        exact hk.symm
    · rw [if_neg h1, if_neg (by omega)]

/-- The cut of a row. -/
theorem rev_cut (A : Option Addr) (n c : Nat) (a b : Int) (h0 : 0 ≤ a) (h1 : a ≤ b) (h2 : b ≤ n) (h3 : n ≤ c) :
    ∃ Ar : Option Addr, (Ar = if c = a.toNat then A else A.map (·.add a.toNat)) ∧ ∀ W : World, (Instr.slice 23 (.slice A n c) (some (.int .i64 a)) (some (.int .i64 b)) none).run Try.prog W = .ok (.slice Ar (b.toNat - a.toNat) (c - a.toNat)) W := by
  refine ⟨_, rfl, fun W => ?_⟩
  obtain ⟨i, hi, hz0, hz1, hz2⟩ := info_parts (show (Try.prog.info? 3).map (fun i => (i.zero, i.size, i.bytes)) = some (some (.int .i64 0), 1, 8) by kernel_rfl)
  have ht : Try.prog.underlying 23 = some (.slice 3) := Try.underlying23
  have hel : Try.prog.elem 23 = 3 := by simp [Program.elem, ht]
  have hu : Try.prog.underlying 23 = some (.slice (Try.prog.elem 23)) := by rw [hel]; exact ht
  rw [run_slice_lh W 23 A n c hu .i64 .i64 a b h0 h1 (by omega), hel]
  simp [sizeOf, typeInfo, hi, hz1, sliced, Result.andThen]

theorem rev_calls (P0_ : Nat → Prop) (Ar Ao : Option Addr) (co : Nat) (l0 : List Int) (a1 a2 : Int) (w0 w : World) (hAr : Ar = if co = a1.toNat then Ao else Ao.map (·.add a1.toNat))
    (hB : Below w0.heap.size w0 w) (ho0 : Kd.R (Kd.int .i64) 3 w w0.heap.size P0_ (.slice Ao l0.length co) l0) (h0 : 0 ≤ a1) (h1 : a1 < a2) (h2 : a2 ≤ (l0.length : Int)) :
    Calls Try.prog 33 #[.slice Ar (a2.toNat - a1.toNat) (co - a1.toNat)] w fun e w' => e = .returned (.tuple #[]) ∧
      Kd.R (Kd.int .i64) 3 w' w0.heap.size (fun k_ => (P0_ k_ ∨ w.heap.size ≤ k_)) (.slice Ao l0.length co) (l0.take a1.toNat ++ ((l0.drop a1.toNat).take (a2.toNat - a1.toNat)).reverse ++ l0.drop a2.toNat) ∧ Below w0.heap.size w0 w' ∧ Kept w w' (fun k_ => P0_ k_) := by
  obtain ⟨g, cap, e, hb, hg, cells, hc⟩ := Kd.R_form ho0 (by omega)
  injection e with e1 _ e3
  subst e1 e3
  have hown := Kd.own_of_R ho0
  obtain ⟨g', cap', e', _, _, hcm, hmx, hlen, hH⟩ := Lib.holds_of_ownsRow (zs := l0) (show w.ownsRow w0.heap.size 3 1 (.slice (some ⟨g, 0, none⟩) l0.length co) l0.length (l0.map (Value.int .i64)) from hown) (by simp)
  injection e' with e1 _ e3
  injection e1 with e1
  injection e1 with e1
  subst e1 e3
  have hne : co ≠ a1.toNat := by omega
  rw [if_neg hne] at hAr
  have hAr2 : Ar = some ⟨g, a1.toNat, none⟩ := by rw [hAr]; simp [Addr.add]; omega
  subst hAr2
  obtain ⟨zs, hzs⟩ : ∃ zs, zs = (l0.drop a1.toNat).take (a2.toNat - a1.toNat) := ⟨_, rfl⟩
  have hzl : zs.length = a2.toNat - a1.toNat := by rw [hzs]; simp only [List.length_take, List.length_drop]; omega
  have hHz : Holds (Value.int .i64) w g a1.toNat zs.toArray := by
    intro j hj
    have hj2 : j < zs.length := by simpa using hj
    have := hH (a1.toNat + j) (by simp; omega)
    rw [Nat.zero_add] at this
    refine ⟨this.1.trans ?_, this.2⟩
    rw [getElem!_pos l0.toArray (a1.toNat + j) (by simp; omega), getElem!_pos zs.toArray j hj]
    simp only [List.getElem_toArray, hzs, List.getElem_take, List.getElem_drop]
  have hrev := Any.slices_Reverse_int Try.lays112 g a1.toNat (co - a1.toNat) zs w hHz (by unfold maxLen at hmx; omega)
  change Calls Try.prog 33 _ _ _ at hrev
  rw [hzl] at hrev
  refine hrev.mono ?_
  rintro e w' ⟨rfl, q, rfl⟩
  have hseg := putRow_seg (q := q) (a := a1.toNat) (ys := zs.reverse) hH (by rw [List.length_reverse, hzl]; omega)
  have hy : (l0.take a1.toNat ++ zs.reverse ++ l0.drop (a1.toNat + zs.reverse.length)).length = l0.length := by
    simp only [List.length_append, List.length_take, List.length_drop, List.length_reverse, hzl]; omega
  have hd : a1.toNat + zs.reverse.length = a2.toNat := by simp only [List.length_reverse, hzl]; omega
  rw [hseg]
  rw [hd] at hy ⊢
  have hr := Lib.ownsRow_putRow (q := q) (ys := l0.take a1.toNat ++ zs.reverse ++ l0.drop a2.toNat) (show w.ownsRow w0.heap.size 3 1 (.slice (some ⟨g, 0, none⟩) l0.length co) l0.length (l0.map (Value.int .i64)) from hown) hy (Nat.le_refl _)
  rw [List.take_of_length_le (Nat.le_of_eq hy)] at hr
  have hok := ho0.1 g (by simp [Value.ownBlock])
  refine ⟨rfl, ?_, Lib.below_putRow hB hb, ?_⟩
  · rw [← hzs]
    refine Kd.R_of_own (by rw [hy]; exact hr) (fun k hk => ?_)
    simp only [Value.ownBlock, Option.some.injEq] at hk
    subst hk
    exact .inl hok
  · refine ⟨by simp [putRow, mapBlock, Sort.ahead], fun i hi hn => ?_⟩
    have : g ≠ i := fun e => hn (e ▸ hok)
    simp [putRow, mapBlock, Sort.ahead, Array.getElem?_modify, this]

end Go.Proofs.Ythkklpegjcnjoaa
