/- A part of the proof: rules for walking code over the evaluator, and what the functions that were walked come to: no condition but those that each theorem states. -/
import Derived.Test.YtmlplblhabdbpaaUD
import Derived.Test.YtmlplblhabdbpaaLgB
import Derived.Shelf.SlSortCmp.InsertionK
import Derived.Sort.AssemblyPlain
import Derived.RegionTactic
import Derived.WalkKit
import Derived.Sort.Grow
set_option linter.unusedVariables false
set_option linter.unusedSimpArgs false
namespace Go.Proofs.Ytmlplblhabdbpaa
open Go.Ab Go.Sort Go.RowKit
set_option maxRecDepth 10000
set_option linter.unusedVariables false
set_option linter.unusedSimpArgs false
/-! ### The library's sort of crossings -/
structure CrO where
  val : Cr
  ok : val.Ok
instance instCrO : Inhabited CrO := ⟨⟨(0, 1), ⟨by decide, by decide⟩, .inl rfl⟩⟩
def encO (c : CrO) : List Value := encC c.val
def cmpO (x y : CrO) : Int := x.val.1 - y.val.1
theorem ltO (x y : CrO) : ltOf cmpO x y = decide (x.val.1 < y.val.1) := by
  unfold ltOf cmpO
  by_cases h : x.val.1 < y.val.1
  · rw [decide_eq_true h]; exact decide_eq_true (by omega)
  · rw [decide_eq_false h]; exact decide_eq_false (by omega)
theorem swoO : SWO (ltOf cmpO) where
  irrefl x := by rw [ltO]; simp
  trans x y z h1 h2 := by rw [ltO] at *; simp only [decide_eq_true_eq] at *; omega
  ntrans x y z h1 h2 := by rw [ltO] at *; simp only [decide_eq_false_iff_not] at *; omega
def pdqO (d : Array CrO) : Array CrO := pdq (ltOf cmpO) d 0 d.size (Lib.bitLen d.size) true true
open Classical in
noncomputable def SMc (C : List Cr) : List Cr := if h : ∀ c ∈ C, c.Ok then (pdqO (C.pmap CrO.mk h).toArray).toList.map CrO.val else C.mergeSort fun x y => decide (x.1 ≤ y.1)
theorem pdqO_perm (d : Array CrO) : (pdqO d).toList.Perm d.toList := by
  obtain ⟨h1, _, h3⟩ := (pdq_sorts (ltOf cmpO) swoO d 0 d.size (Lib.bitLen d.size) true true (Nat.zero_le _) (Nat.le_refl _) (Or.inl rfl)).1
  change (pdqO d).size = d.size at h1
  change ((pdqO d).extract 0 d.size).toList.Perm (d.extract 0 d.size).toList at h3
  have e1 : (pdqO d).extract 0 d.size = pdqO d := by rw [← h1]; exact Array.extract_size
  rw [e1, Array.extract_size] at h3
  exact h3
theorem pdqO_ord (d : Array CrO) : ((pdqO d).toList.map CrO.val).Pairwise fun x y : Cr => x.1 ≤ y.1 := by
  obtain ⟨⟨h1, _, _⟩, hs⟩ := pdq_sorts (ltOf cmpO) swoO d 0 d.size (Lib.bitLen d.size) true true (Nat.zero_le _) (Nat.le_refl _) (Or.inl rfl)
  rw [List.pairwise_map, List.pairwise_iff_getElem]
  intro i j hi hj hij
  have hj' : j < (pdqO d).size := by simpa using hj
  have hi' : i < (pdqO d).size := by simpa using hi
  have hsz : (pdqO d).size = d.size := h1
  have := hs i j (Nat.zero_le _) hij (by rw [← hsz]; exact hj')
  change ltOf cmpO (pdqO d)[j]! (pdqO d)[i]! = false at this
  rw [ltO, getElem!_pos _ j hj', getElem!_pos _ i hi'] at this
  have h := of_decide_eq_false this
  rw [Array.getElem_toList, Array.getElem_toList]
  omega
theorem SMc_perm (C : List Cr) : (SMc C).Perm C := by
  unfold SMc
  split
  · rename_i h
    have e : (C.pmap CrO.mk h).map CrO.val = C := by rw [List.map_pmap]; simp
    have := (pdqO_perm (C.pmap CrO.mk h).toArray).map CrO.val
    rw [show (C.pmap CrO.mk h).toArray.toList = C.pmap CrO.mk h from rfl, e] at this
    exact this
  · exact List.mergeSort_perm _ _
theorem SMc_ord (C : List Cr) : Srt Prod.fst (SMc C) := by
  unfold SMc Srt
  split
  · exact pdqO_ord _
  · have h := List.pairwise_mergeSort (le := fun x y : Cr => decide (x.1 ≤ y.1)) (fun a b c h1 h2 => by simp only [decide_eq_true_eq] at *; omega) (fun a b => by
      simp only [Bool.or_eq_true, decide_eq_true_eq]; omega) C
    exact h.imp fun hxy => of_decide_eq_true hxy
theorem SMc_len (C : List Cr) : (SMc C).length = C.length := (SMc_perm C).length_eq
theorem encC_get : ∀ (L : List Cr) (j : Nat), (L.flatMap encC)[j]? = (L[j / 2]?).map (fun e => if j % 2 = 0 then Value.int .i64 e.1 else Value.int .i64 e.2)
  | [], j => by simp
  | e :: L, 0 => rfl
  | e :: L, 1 => rfl
  | e :: L, j + 2 => by
    have h := encC_get L j
    rw [show (e :: L).flatMap encC = .int .i64 e.1 :: .int .i64 e.2 :: L.flatMap encC from rfl, List.getElem?_cons_succ, List.getElem?_cons_succ, h, show (j + 2) / 2 = j / 2 + 1 by omega, show (j + 2) % 2 = j % 2 by omega, List.getElem?_cons_succ]
theorem encC_flen (L : List Cr) : (L.flatMap encC).length = L.length * 2 := flat_length encC 2 encC_len L
theorem encC_inj : ∀ {L M : List Cr}, L.flatMap encC = M.flatMap encC → L = M
  | [], [], _ => rfl
  | [], _ :: _, h => by cases h
  | _ :: _, [], h => by cases h
  | (a, b) :: L, (c, d) :: M, h => by
    have h' : Value.int .i64 a :: Value.int .i64 b :: L.flatMap encC = Value.int .i64 c :: Value.int .i64 d :: M.flatMap encC := h
    injection h' with h1 h2
    injection h2 with h2 h3
    cases h1; cases h2
    rw [encC_inj h3]
theorem encC_one (L : List Cr) : (L.flatMap encC).all oneC = true := by
  rw [List.all_flatMap]; simp [encC, oneC]
theorem flatO (d : Array CrO) : flatK encO 2 d = ((d.toList.map CrO.val).flatMap encC).toArray := by
  apply Array.ext_getElem?
  intro j
  have hs : (flatK encO 2 d).size = d.size * 2 := by rw [size_flatK]
  have hl2 : (d.toList.map CrO.val).length = d.size := by simp
  by_cases hj : j < d.size * 2
  · have hq : j / 2 < d.size := by omega
    have hg := get_flatK encO 2 d j hj
    rw [getElem!_pos _ j (by rw [hs]; exact hj)] at hg
    rw [Array.getElem?_eq_getElem (by rw [hs]; exact hj), hg]
    have e1 : d[j / 2]! = (d[j / 2]'hq) := by rw [getElem!_pos d (j / 2) hq]
    rw [e1, List.getElem?_toArray, encC_get, List.getElem?_map]
    have e2 : d.toList[j / 2]? = some (d[j / 2]'hq) := by rw [Array.getElem?_toList, Array.getElem?_eq_getElem hq]
    rw [e2]
    simp only [Option.map_some]
    rcases Nat.mod_two_eq_zero_or_one j with h | h
    · rw [h]; rfl
    · rw [h]; rfl
  · rw [Array.getElem?_eq_none (by rw [hs]; omega), List.getElem?_toArray, List.getElem?_eq_none (by rw [encC_flen, hl2]; omega)]
/-- The comparison of two crossings: two blocks are laid. -/
theorem closure45 (a b c d : Int) (W : World) (ha : -4503599627370496 ≤ a ∧ a ≤ 4503599627370496) (hc : -4503599627370496 ≤ c ∧ c ≤ 4503599627370496) :
    Calls Try.prog 45 #[.agg #[.int .i64 a, .int .i64 b], .agg #[.int .i64 c, .int .i64 d]] W fun e w' => e = .returned (.int .i64 (a - c)) ∧ ∃ q os', w' = grow (W.drewN q) os' := by
  go_enter Try.func45, Try.ntmps45
  go_wp2
  go_ret
  exact ⟨by first | rfl | simp, 0, _, by rw [alloc_eq_grow, alloc_eq_grow, grow_grow]; rfl⟩
end Go.Proofs.Ytmlplblhabdbpaa

namespace Go.Proofs.Ytmlplblhabdbpaa
open Go.Ab Go.Sort
set_option maxRecDepth 10000
set_option linter.unusedVariables false
set_option linter.unusedSimpArgs false

/-! ### What a sort does to the memory -/

/-- The cells from a place on are others, and blocks were laid behind: a step. -/
theorem Step.sorted {B ro : Nat} {ρ : Ren} {s s' : St} {w : World} {ν : Nat} {i : RI} {l : List Value} (hr : Rel B ro ρ s.heap.get w) (hi : ρ ν = some i) (h : stCells ro s ν 0 l = some s') (hc : ∀ v ∈ l, ∀ ρ, VR ρ v v) (m : Nat) (os : Array Go.Obj) :
    Step B ro ρ s w ρ s' (grow (putRow id (Sort.ahead w m) i.b i.r l.toArray) os) := by
  cases l with
  | nil =>
    simp only [stCells] at h; cases h
    refine Step.ofBelow hr ?_
    have e : putRow id (Sort.ahead w m) i.b i.r ([] : List Value).toArray = Sort.ahead w m := mapBlock_id _ _ _ fun c e fr _ => by
      apply Array.ext_getElem?; intro k; simp only [putCells, Array.getElem?_mapIdx]
      cases c[k]? <;> simp
      intro h1 h2; omega
    rw [e]
    exact ⟨rfl, rfl, rfl, by simp [grow, Sort.ahead], fun k hk => by
      show (w.heap ++ os)[k]? = _
      rw [Array.getElem?_append_left (show k < w.heap.size from hk)]⟩
  | cons v l =>
    simp only [stCells] at h
    split at h
    · rename_i b hb
      obtain ⟨hb1, hb2⟩ := liveBlk_some hb
      cases hcn : (Nat.ble ro ν && Nat.ble (0 + (v :: l).length) b.n && (v :: l).all oneC) with
      | false => rw [hcn] at h; cases h
      | true =>
        rw [hcn] at h
        simp only [cond_true, T.setsK_eq, setObjK_eq] at h
        cases h
        simp only [Bool.and_eq_true, Nat.ble_eq] at hcn
        obtain ⟨⟨hc1, hc2⟩, hc3⟩ := hcn
        obtain ⟨hC, hn, ho, he⟩ := live_cells hr hb1 hb2 hi
        obtain ⟨cs, t, fr, h1, h2, h3, h4, h5, h6, h7⟩ := hC
        have hput : (putRow id (Sort.ahead w m) i.b i.r (v :: l).toArray).heap[i.b]? = some (.cells (putCells id i.r (v :: l).toArray cs) t fr) := by
          show ((Sort.ahead w m).heap.modify i.b _)[i.b]? = _
          rw [Array.getElem?_modify, if_pos rfl]
          show (w.heap[i.b]?).map _ = _
          rw [h1]; rfl
        have hoth : ∀ k, k ≠ i.b → (putRow id (Sort.ahead w m) i.b i.r (v :: l).toArray).heap[k]? = w.heap[k]? := fun k hk => by
          show ((Sort.ahead w m).heap.modify i.b _)[k]? = _
          rw [Array.getElem?_modify, if_neg (fun e => hk e.symm)]; rfl
        have hsz : (putRow id (Sort.ahead w m) i.b i.r (v :: l).toArray).heap.size = w.heap.size := by
          show ((Sort.ahead w m).heap.modify i.b _).size = _
          rw [Array.size_modify]; rfl
        have st : Step B ro ρ s w ρ ⟨s.heap.set ν (.cells { b with cells := T.sets (v :: l) 0 b.cells }), s.next⟩ (putRow id (Sort.ahead w m) i.b i.r (v :: l).toArray) := by
          refine Step.turn hr hc1 hi hb1 (by simp [AObj.alive, hb2]) hsz hoth rfl rfl rfl ⟨hn, ho, he, fun _ => ⟨putCells id i.r (v :: l).toArray cs, t, fr, hput, by simp [putCells, h2], h3, by simpa [putCells] using h4, h5, h6, fun j u hu => ?_⟩⟩
          rcases cellAt_sets hc2 hu with ⟨a1, a2, a3⟩ | ⟨a1, a2⟩
          · have hj : j < (v :: l).length := by omega
            rw [Nat.sub_zero] at a3
            refine ⟨u, ?_, hc u (List.mem_of_getElem? a3) ρ⟩
            have hlt : i.r + j < cs.size := by omega
            simp only [putCells, Array.getElem?_mapIdx, Array.getElem?_eq_getElem hlt, Option.map_some]
            rw [if_pos ⟨by omega, by simpa using hj⟩, Nat.add_sub_cancel_left, getElem!_pos _ j (by simpa using hj)]
            rw [List.getElem?_eq_getElem hj] at a3
            simpa using a3
          · obtain ⟨u', e1, e2⟩ := h7 j u a2
            refine ⟨u', ?_, e2⟩
            have hlt : i.r + j < cs.size := (Array.getElem?_eq_some_iff.mp e1).1
            have hjl : ¬ (j < 0 + (v :: l).length) := fun h => a1 ⟨Nat.zero_le _, h⟩
            simp only [putCells, Array.getElem?_mapIdx, e1, Option.map_some]
            rw [if_neg (fun h => hjl (by have := h.2; simp only [List.size_toArray] at this; omega))]
        refine st.trans (Step.ofBelow st.rel ⟨rfl, rfl, rfl, by simp [grow], fun k hk => ?_⟩)
        show ((putRow id (Sort.ahead w m) i.b i.r (v :: l).toArray).heap ++ os)[k]? = _
        rw [Array.getElem?_append_left hk]
    · cases h
/-- Cells of one's own are not frozen. -/
theorem own_thawed {B ro : Nat} {ρ : Ren} {s : St} {w : World} {ν n : Nat} {i : RI} {l : List Value} (hr : Rel B ro ρ s.heap.get w) (hi : ρ ν = some i) (hν : ro ≤ ν) (h : ldCells s ν 0 n = some l) (hn : n ≠ 0) {o : Nat} {v : Value} (hc : w.cell? ⟨i.b, o, none⟩ = some v) :
    w.frozen? ⟨i.b, o, none⟩ = false := by
  obtain ⟨n, rfl⟩ : ∃ m, n = m + 1 := ⟨n - 1, by omega⟩
  simp only [ldCells] at h
  split at h
  · rename_i b hb
    obtain ⟨hb1, hb2⟩ := liveBlk_some hb
    obtain ⟨cs, t, fr, h1, h2, h3, h4, h5, h6, h7⟩ := (live_cells hr hb1 hb2 hi).1
    have h4 := h4 (hr.own ν i hi hν).2
    have ho : o < cs.size := by
      simp only [World.cell?, h1] at hc
      exact (Array.getElem?_eq_some_iff.mp (by simpa using hc)).1
    simp only [World.frozen?, h1]
    rcases h4 with h4 | h4
    · simp; omega
    · simp; omega
  · cases h
end Go.Proofs.Ytmlplblhabdbpaa
