/- A part of the proof: rules for walking code over the evaluator, and what the functions that were walked come to: no condition but those that each theorem states. -/
import Derived.Test.YtmlplblhabdbpaaKA
import Derived.Test.YtmlplblhabdbpaaRasterAlive
import Derived.Test.YtmlplblhabdbpaaShelfC
set_option linter.unusedVariables false
set_option linter.unusedSimpArgs false
namespace Go.Proofs.Ytmlplblhabdbpaa
open Go.Ab Go.RowKit Go.Sort
set_option linter.unusedVariables false
set_option linter.unusedSimpArgs false
set_option maxRecDepth 100000
noncomputable section
/-- The library's sort of crossings. -/
theorem sort_calls (w : World) (blk off cap : Nat) {L : List Cr} (hok : ∀ c ∈ L, c.Ok) (hl : L.length ≤ 1000000) (hblk : blk < w.heap.size)
    (hc : ∀ j v, (L.flatMap encC)[j]? = some v → w.cell? ⟨blk, off + j, none⟩ = some v ∧ w.frozen? ⟨blk, off + j, none⟩ = false) :
    Calls Try.prog 44 #[.slice (some ⟨blk, off, none⟩) L.length cap, .func (.func 45) #[] #[]] w fun e w' => e = .returned (.tuple #[]) ∧ ∃ m os, w' = grow (putRow id (Sort.ahead w m) blk off ((SMc L).flatMap encC).toArray) os := by
  have eg : ∀ args w, (callFunc 45 args).run Try.prog w = .ok (.enter 45 args) w := enters_of Try.func45 (by kernel_rfl) rfl
  have hmap : (L.pmap CrO.mk hok).map CrO.val = L := by rw [List.map_pmap]; simp
  have hcmp : CmpLays Try.prog 45 #[] encO 2 cmpO blk off (L.pmap CrO.mk hok).toArray.size w := fun _ _ _ _ x y => closure45 _ _ _ _ _ x.ok.1 y.ok.1
  have hfl : flatK encO 2 (L.pmap CrO.mk hok).toArray = (L.flatMap encC).toArray := by rw [flatO]; rw [show (L.pmap CrO.mk hok).toArray.toList = L.pmap CrO.mk hok from rfl, hmap]
  have hH : HoldsK encO 2 w blk off (L.pmap CrO.mk hok).toArray := by
    unfold HoldsK
    rw [hfl]
    intro j hj
    have hj' : j < (L.flatMap encC).length := by simpa using hj
    rw [getElem!_pos _ j hj]
    exact hc j _ (by rw [List.getElem?_eq_getElem hj']; simp)
  have h := AnyQ.slices_SortFunc_eq Try.sortCross 2 Try.isAgg83 Try.sizeOf83 encO (fun _ => rfl) (fun x v hv => by
      simp only [encO, encC, List.mem_cons, List.not_mem_nil, or_false] at hv
      rcases hv with rfl | rfl <;> rfl) cmpO swoO 45 #[] blk off cap (L.pmap CrO.mk hok).toArray w eg hcmp hH hblk (by simp; omega)
  have hs : (L.pmap CrO.mk hok).toArray.size = L.length := by simp
  have hS : SMc L = (pdqO (L.pmap CrO.mk hok).toArray).toList.map CrO.val := by unfold SMc; rw [dif_pos hok]
  have h2 : Calls Try.prog 44 #[.slice (some ⟨blk, off, none⟩) (L.pmap CrO.mk hok).toArray.size cap, .func (.func 45) #[] #[]] w fun e w' => e = .returned (.tuple #[]) ∧ ∃ n os, w' = sortWorldK encO 2 w blk off n (pdqO (L.pmap CrO.mk hok).toArray) os := h
  rw [hs] at h2
  refine h2.mono ?_
  rintro e w' ⟨rfl, n, os, rfl⟩
  refine ⟨rfl, n, os, ?_⟩
  unfold sortWorldK putRowK
  rw [flatO, hS]

/-! ### The functions that are met by contracts -/
def F45 : Value := .func (.func 45) #[] #[]
structure SortArg (ro : Nat) (s : St) (args : List Value) (s' : St) (ν n c : Nat) (L : List Cr) : Prop where
  eq : args = [.slice (some ⟨ν, 0, none⟩) n c, F45]
  cells : ldCells s ν 0 (n * 2) = some (L.flatMap encC)
  len : L.length = n
  big : n ≤ 1000000
  ok : ∀ c ∈ L, c.Ok
  own : ro ≤ ν
  st : stCells ro s ν 0 ((SMc L).flatMap encC) = some s'
def SortRes (ro : Nat) (s : St) (args : List Value) (s' : St) : Prop := ∃ ν n c L, SortArg ro s args s' ν n c L
theorem SortRes.one {ro : Nat} {s s1 s2 : St} {args : List Value} (h : SortRes ro s args s1) (k : SortRes ro s args s2) : s1 = s2 := by
  obtain ⟨ν, n, c, L, h⟩ := h
  obtain ⟨ν', n', c', L', k⟩ := k
  have e := h.eq.symm.trans k.eq
  simp only [List.cons.injEq, Value.slice.injEq, Option.some.injEq, Addr.mk.injEq, and_true] at e
  obtain ⟨rfl, rfl, rfl⟩ := e
  have e2 := h.cells.symm.trans k.cells
  obtain rfl := encC_inj (Option.some.inj e2)
  exact Option.some.inj (h.st.symm.trans k.st)

open Classical in
/-- Calls of the library's sort and of the chapter's examples. -/
def Xc (ro : Nat) : CallE := fun f args s =>
  if f = 9 then (match args with
    | [] => some (.ok (.bool true) s)
    | _ => none)
  else if f = 44 then (if args = [.slice none 0 0, F45] then some (.ok (.tuple #[]) s) else if h : ∃ s', SortRes ro s args s' then some (.ok (.tuple #[]) h.choose) else none)
  else none

theorem Sp.ofX {X : CallE} {ro : Nat} {f : FuncId} {args : List Value} {s s' : St} {v : Value} {H' : Hp} {Post : Value → Hp → Prop} (h : X f args s = some (.ok v s')) (hn : s.next ≤ s'.next) (hM : Models ro s' H') (hP : Post v H') : Sp X Try.prog ro f args s Post :=
  ⟨v, s', ⟨0, fun k _ => by
    cases k with
    | zero => exact h
    | succ k => simp only [evX, h]⟩, hn, H', hM, hP⟩

theorem xc_own (ro : Nat) : OwnX (Xc ro) := fun f args s h1 h2 _ _ => by unfold Xc; rw [if_neg h2, if_neg h1]
theorem xc_ok (ro : Nat) : ExtOk (Xc ro) ro SMc where
  sort := fun s H v C hM hv hC hok => by
    rcases hv with ⟨rfl, h0, hnil⟩ | ⟨ν, c, ws, rfl, hν, hw, hnc, htk⟩
    · have hC0 : C = [] := List.length_eq_zero_iff.mp h0
      subst hC0
      refine Sp.ofX (X := Xc ro) (s' := s) (by unfold Xc; rw [if_neg (by decide), if_pos rfl]; exact if_pos rfl) (Nat.le_refl _) hM ⟨rfl, .inl ⟨rfl, rfl, ?_⟩, KeptBut.refl'⟩
      rw [(SMc_perm []).eq_nil]; rfl
    · have hfl : (C.flatMap encC).length = C.length * 2 := encC_flen C
      have hfs : ((SMc C).flatMap encC).length = C.length * 2 := by rw [encC_flen, SMc_len]
      have hro2 : 0 + ((SMc C).flatMap encC).length ≤ ws.length := by rw [hfs]; omega
      obtain ⟨s', hst, hM'⟩ := stCells_row hM hν (o := 0) (l := (SMc C).flatMap encC) hro2 (encC_one _)
      have hres : SortRes ro s [.slice (some ⟨ν, 0, none⟩) C.length c, F45] s' := ⟨ν, C.length, c, C, {
        eq := rfl
        cells := ldCells_row hM hν hfl fun i v e => by
          have hi : i < C.length * 2 := by rw [← hfl]; exact (List.getElem?_eq_some_iff.mp e).1
          rw [htk, List.getElem?_take, if_pos hi] at e
          rw [Nat.zero_add]; exact e
        len := rfl
        big := hC
        ok := hok
        own := (hM.ok ν _ hν).2.1
        st := hst }⟩
      have hex : ∃ s', SortRes ro s [.slice (some ⟨ν, 0, none⟩) C.length c, F45] s' := ⟨s', hres⟩
      have hch : hex.choose = s' := hex.choose_spec.one hres
      refine Sp.ofX (X := Xc ro) (v := .tuple #[]) (s' := s') ?_ (by rw [stCells_next hst]; exact Nat.le_refl _) hM' ⟨rfl, .inr ⟨ν, c, _, rfl, Hp.up_same, by rw [splice_length hro2]; exact hw, hnc, ?_⟩, fun μ o h hne => Hp.up_ne (fun e => hne (by rw [e]; rfl)) h⟩
      · unfold Xc
        rw [if_neg (by decide), if_pos rfl, if_neg (by intro h; cases h)]
        refine (dif_pos hex).trans ?_
        exact congrArg (fun z => some (Ret.ok (.tuple #[]) z)) hch
      · unfold splice
        rw [List.take_zero, List.nil_append, List.take_left' hfs]
  perm := SMc_perm
  ord := SMc_ord
  alive := fun s H hM => Sp.ofX (X := Xc ro) (s' := s) (by unfold Xc; rw [if_pos rfl]) (Nat.le_refl _) hM ⟨rfl, rfl⟩
theorem vr_int {ρ : Ren} {k : IntKind} {n : Int} {v : Value} (h : VR ρ (.int k n) v) : v = .int k n := by cases h; rfl

theorem xc_calls (B ro : Nat) : CallS Try.prog B ro (Xc ro) := fun f args s r h ρ w args' hr hro hwf ha hf => by
  obtain ⟨args'⟩ := args'
  simp only at ha
  unfold Xc at h
  split at h
  · rename_i hf9
    subst hf9
    split at h
    · cases h
      refine ⟨⟨_, Try.func9, by decide, rfl⟩, ?_⟩
      cases ha
      exact (rasterAlive_calls w).mono fun e w' ⟨he, hb⟩ => ⟨ρ, Step.ofBelow hr hb, by rw [he]; exact .bool _⟩
    · cases h
  split at h
  · rename_i hf44
    subst hf44
    refine ⟨⟨_, Try.func44, by decide, rfl⟩, ?_⟩
    have f45 : ∀ v, VR ρ F45 v → v = F45 := fun v hv => by
      obtain ⟨f', c', rfl, h1, h2⟩ := VR.func_inv hv
      obtain ⟨f'⟩ := f'
      obtain ⟨c'⟩ := c'
      cases h1; cases h2
      rfl
    split at h
    · rename_i hargs
      subst hargs
      cases h
      cases ha with
      | cons h1 h2 =>
        cases h2 with
        | cons h2 h3 =>
          cases h3
          rw [f45 _ h2]
          cases h1
          exact (AnyF.slices_SortFunc_none Try.sortCross none 0 F45 w).mono fun e w' ⟨he, hb⟩ => ⟨ρ, by rw [hb]; exact Step.refl hr, by rw [he]; exact VR.tuple_of .nil⟩
    split at h
    · rename_i hex
      have hch := hex.choose_spec
      generalize hex.choose = s' at h hch
      cases h
      obtain ⟨ν, n, c, L, hS⟩ := hch
      obtain rfl := hS.eq
      cases ha with
      | cons h1 h2 =>
        cases h2 with
        | cons h2 h3 =>
          cases h3
          rw [f45 _ h2]
          obtain ⟨_, i, o', cap', hi, rfl, hsl⟩ := h1.slc_inv rfl
          have hst := hS.st
          by_cases hn0 : n = 0
          · subst hn0
            obtain rfl : L = [] := List.length_eq_zero_iff.mp hS.len
            have e : (SMc []).flatMap encC = [] := by
              have := (SMc_perm []).eq_nil
              rw [this]; rfl
            rw [e] at hst
            cases hst
            exact (AnyF.slices_SortFunc_none Try.sortCross _ _ F45 w).mono fun e w' ⟨he, hb⟩ => ⟨ρ, by rw [hb]; exact Step.refl hr, by rw [he]; exact VR.tuple_of .nil⟩
          · have ho : o' = i.r := by
              rcases hsl with h | h | h
              · rw [h.1]; rfl
              · rw [h.2.1]; rfl
              · exact absurd h.2.1 hn0
            subst ho
            obtain ⟨l', hl1, hl2, hl3⟩ := ldCells_sim hr hi hS.cells
            have hself : l' = L.flatMap encC := by
              refine (List.ext_getElem? fun j => ?_)
              cases hj : (L.flatMap encC)[j]? with
              | none =>
                rw [List.getElem?_eq_none_iff] at hj ⊢
                rw [← hl2.length]; exact hj
              | some v =>
                obtain ⟨v', e1, e2⟩ := hl2.get hj
                rw [e1]
                rw [encC_get] at hj
                cases hq : L[j / 2]? with
                | none => rw [hq] at hj; cases hj
                | some q =>
                  rw [hq, Option.map_some] at hj
                  cases hj
                  by_cases hm : j % 2 = 0
                  · rw [if_pos hm] at e2 ⊢; rw [vr_int e2]
                  · rw [if_neg hm] at e2 ⊢; rw [vr_int e2]
            subst hself
            have hblk : i.b < w.heap.size := hr.inb ν i hi
            have hcl := sort_calls w i.b i.r cap' hS.ok (by rw [hS.len]; exact hS.big) hblk fun j v e => by
              have hc := hl3 j v e
              rw [Nat.add_zero] at hc
              exact ⟨hc, own_thawed hr hi hS.own hS.cells (by omega) hc⟩
            rw [hS.len] at hcl
            refine hcl.mono ?_
            rintro e w' ⟨rfl, m, os, rfl⟩
            exact ⟨ρ, Step.sorted hr hi hst (fun v hv ρ => by
              obtain ⟨q, _, hq⟩ := List.mem_flatMap.mp hv
              simp only [encC, List.mem_cons, List.not_mem_nil, or_false] at hq
              rcases hq with rfl | rfl <;> exact .int _ _) m os, VR.tuple_of .nil⟩
    · cases h
  · cases h
end
end Go.Proofs.Ytmlplblhabdbpaa
