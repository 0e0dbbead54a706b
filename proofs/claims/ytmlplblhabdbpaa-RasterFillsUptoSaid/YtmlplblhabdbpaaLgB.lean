/- A part of the proof: rules for walking code over the evaluator, and what the functions that were walked come to: no condition but those that each theorem states. -/
import Derived.Test.YtmlplblhabdbpaaLgA
import Derived.Test.YtmlplblhabdbpaaEvC
import Derived.Test.YtmlplblhabdbpaaEv26
set_option linter.unusedVariables false
set_option linter.unusedSimpArgs false
namespace Go.Ab
noncomputable section

/-! ### Slices of one's own: append, cutting, making -/

/-- A slice over a row of one's own that begins with the row: nil, or its cells are these. -/
def SlO (H : Hp) (v : Value) (sz : Nat) (n : Nat) (vs : List Value) : Prop :=
  (v = .slice none 0 0 ∧ n = 0 ∧ vs = []) ∨ ∃ ν c ws, v = .slice (some ⟨ν, 0, none⟩) n c ∧ H ν = some (.row sz ws) ∧ ws.length = c * sz ∧ n ≤ c ∧ vs = ws.take (n * sz)
def baseV : Value → Option Nat
  | .slice (some a) _ _ => some a.block
  | _ => none
/-- All is kept but the row of v. -/
def KeptBut (H H' : Hp) (v : Value) : Prop := ∀ μ o, H μ = some o → baseV v ≠ some μ → H' μ = some o
/-- The slice lies where it lay, or in a new block. -/
def NewOr (H : Hp) (v v' : Value) : Prop := ∀ μ, baseV v' = some μ → baseV v = some μ ∨ H μ = none

/-- Where the slice had to be made anew: just its elements. Where there was room: the same place. -/
def AppEx (H H' : Hp) (v v' : Value) (sz n0 n : Nat) (vs : List Value) : Prop :=
  (baseV v ≠ none → baseV v' ≠ none) ∧ (∀ A l c, v = .slice A l c → c < n → ∃ a, v' = .slice (some ⟨a, 0, none⟩) n n ∧ H' a = some (.row sz vs)) ∧
  (∀ a l c, v = .slice (some a) l c → n ≤ c → v' = .slice (some a) n c) ∧ (n0 = n → ∀ μ o, H μ = some o → H' μ = some o)
theorem SlO.length {H : Hp} {v : Value} {sz n : Nat} {vs : List Value} (h : SlO H v sz n vs) : vs.length = n * sz := by
  rcases h with ⟨_, rfl, rfl⟩ | ⟨ν, c, ws, _, _, h1, h2, rfl⟩
  · simp
  · rw [List.length_take, h1]; exact Nat.min_eq_left (Nat.mul_le_mul_right _ h2)
theorem SlO.kept {H H' : Hp} {v u : Value} {sz n : Nat} {vs : List Value} (h : SlO H v sz n vs) (hk : KeptBut H H' u) (hne : ∀ μ, baseV v = some μ → baseV u ≠ some μ) : SlO H' v sz n vs := by
  rcases h with h | ⟨ν, c, ws, rfl, h1, h2⟩
  · exact .inl h
  · exact .inr ⟨ν, c, ws, rfl, hk _ _ h1 (hne _ rfl), h2⟩
theorem SlO.up {H : Hp} {v : Value} {sz n μ : Nat} {vs : List Value} {o : Obj} (h : SlO H v sz n vs) (hne : baseV v ≠ some μ) : SlO (H.up μ o) v sz n vs := by
  rcases h with h | ⟨ν, c, ws, rfl, h1, h2⟩
  · exact .inl h
  · exact .inr ⟨ν, c, ws, rfl, Hp.up_ne (fun e => hne (by rw [← e]; rfl)) h1, h2⟩
theorem SlO.base_some {H : Hp} {v : Value} {sz n μ : Nat} {vs : List Value} (h : SlO H v sz n vs) (hb : baseV v = some μ) : ∃ o, H μ = some o := by
  rcases h with ⟨rfl, _⟩ | ⟨ν, c, ws, rfl, h1, _⟩
  · cases hb
  · cases hb; exact ⟨_, h1⟩

/-- What is appended: n elements, of these cells. -/
def Src (P : Program) (ro : Nat) (H : Hp) (y : Value) (sz n : Nat) (xs : List Value) : Prop :=
  lenOfV y = some n ∧ xs.length = n * sz ∧ xs.all oneC = true ∧ ∀ s, Models ro s H → firstL s sz n y = some xs

theorem Src.nil {P : Program} {ro : Nat} {H : Hp} {sz c : Nat} : Src P ro H (.slice none 0 c) sz 0 [] := ⟨rfl, by simp, rfl, fun _ _ => rfl⟩
theorem Src.row {P : Program} {ro : Nat} {H : Hp} {ν o es n c sz : Nat} {vs xs : List Value} (hH : H ν = some (.row es vs)) (hx : xs.length = n * sz) (h1 : xs.all oneC = true) (hv : ∀ i v, xs[i]? = some v → vs[o + i]? = some v) :
    Src P ro H (.slice (some ⟨ν, o, none⟩) n c) sz n xs := ⟨rfl, hx, h1, fun s hM => by
  simp only [firstL]
  exact ldCells_row hM hH hx hv⟩

section
variable {X : CallE} {P : Program} {ro : Nat} {g : Gm} {s : St} {R : Value → St → Prop} {H : Hp}

theorem okB_dead {b : Blk} {es : Nat} {vs : List Value} (h : OkB b es vs) : b.dead = false := h.1

theorem growOf_ok {elem : TypeId} {sz n m ν : Nat} {blk : Blk} {ws new : List Value} (hM : Models ro s H) (hb : OkB blk sz ws) (hn : n * sz ≤ ws.length) (hnew : new.length = m * sz) :
    ∃ b', growOf s elem sz n (n + m) ⟨ν, 0, none⟩ blk new = some (.val (.slice (some ⟨s.next, 0, none⟩) (n + m) (n + m)) (s.push (.cells b'))) ∧ OkB b' sz (ws.take (n * sz) ++ new) := by
  obtain ⟨h1, h2, h3, h4, h5⟩ := hb
  refine ⟨{ cells := T.sets new (n * sz) blk.cells, n := (n + m) * sz, z := blk.z, elem := elem, opn := true, es := sz, str := blk.str, dead := false }, ?_, rfl, h2, ?_, fun _ => rfl, ?_⟩
  · simp only [growOf, show Nat.ble (n * sz) blk.n = true from Nat.ble_eq.mpr (by rw [h3]; exact hn), cond_true, T.setsK_eq, newObjK_eq]
    rfl
  · simp only [List.length_append, List.length_take, hnew, Nat.min_eq_left hn, Nat.add_mul]
  · intro i v e
    have hi : i < (n + m) * sz := by
      have := (List.getElem?_eq_some_iff.mp e).1
      simp only [List.length_append, List.length_take, hnew, Nat.min_eq_left hn] at this
      rw [Nat.add_mul]; exact this
    unfold cellAt
    simp only [show Nat.blt i ((n + m) * sz) = true from Nat.blt_eq.mpr hi, cond_true]
    rw [T.get_sets, hnew]
    rw [List.getElem?_append] at e
    simp only [List.length_take, Nat.min_eq_left hn] at e
    by_cases hc : i < n * sz
    · rw [if_pos hc, List.getElem?_take, if_pos hc] at e
      rw [if_neg (by omega)]
      have := h5 i v e
      unfold cellAt at this
      rw [show Nat.blt i blk.n = true from Nat.blt_eq.mpr (by rw [h3]; omega), cond_true] at this
      exact this
    · rw [if_neg hc] at e
      rw [if_pos ⟨by omega, by rw [Nat.add_mul] at hi; omega⟩, e]

theorem models_del {ν : Nat} {O : AObj} (hM : Models ro s H) (hν : ν < s.next) : Models ro (s.put ν O) (fun μ => if μ = ν then none else H μ) where
  low := hM.low
  ok := fun μ o e => by
    by_cases hm : μ = ν
    · simp only [hm, if_true] at e; cases e
    · simp only [hm, if_false] at e
      obtain ⟨h1, h2⟩ := hM.ok μ o e
      exact ⟨h1, h2.congr (by rw [St.put_get, if_neg hm])⟩

theorem SV.appendM {x y : Operand} {ts : Array TypeId} {t u e : TypeId} {sz bytes : Nat} {z : List Value} [hT : TSlice P t e sz] [hI : TInfo P e sz bytes] [hZ : TZero P e z] {e' : TypeId} {sz' : Nat} [hU : TSlice P u e' sz']
    {v w : Value} {n m : Nat} {vs xs : List Value} (hts : ts.toList = [t, u]) (hM : Models ro s H) (hx : og g x = v) (hy : og g y = w) (hv : SlO H v sz n vs) (hw : Src P ro H w sz m xs) (hz : z.length = sz)
    (hb : (n + m) * bytes ≤ 140737488355328 ∧ n + m ≤ 9223372036854775807 ∧ bytes ≤ 16384)
    (hR : ∀ v' s' H', s.next ≤ s'.next → Models ro s' H' → SlO H' v' sz (n + m) (vs ++ xs) → KeptBut H H' v → NewOr H v v' → AppEx H H' v v' sz n (n + m) (vs ++ xs) → R v' s') : SV X P ro g (.call ⟨.builtin .append, #[x, y], ts⟩) s R := by
  obtain ⟨ei, hei, hes, heb⟩ := hI.ok
  obtain ⟨hw1, hw2, hw3, hw4⟩ := hw
  have hf := hw4 s hM
  have c1 : Nat.blt 140737488355328 ((n + m) * bytes) = false := by cases e : Nat.blt 140737488355328 ((n + m) * bytes) with | false => rfl | true => have := Nat.blt_eq.mp e; omega
  have c2 : Nat.blt 9223372036854775807 (n + m) = false := by cases e : Nat.blt 9223372036854775807 (n + m) with | false => rfl | true => have := Nat.blt_eq.mp e; omega
  have c3 : Nat.blt 16384 bytes = false := by cases e : Nat.blt 16384 bytes with | false => rfl | true => have := Nat.blt_eq.mp e; omega
  have c4 : Nat.beq xs.length (m * sz) = true := by rw [hw2]; exact Nat.beq_refl _
  have c5 : Nat.beq z.length sz = true := by rw [hz]; exact Nat.beq_refl _
  have unfold0 : ∀ (t' : T Value), t'.get = g → evalOp P ro t' (.call ⟨.builtin .append, #[x, y], ts⟩) s = appendOf P ro s e v w := fun t' ht => by
    have hu2 := hU.und
    simp only [evalOp, builtinOf, hts, List.map_cons, List.map_nil, opv_og, ht, hx, hy, hT.und, hu2]
  rcases hv with ⟨rfl, rfl, rfl⟩ | ⟨ν, c, ws, rfl, hH, hwl, hnc, rfl⟩
  · -- nothing was there
    by_cases hm : m = 0
    · subst hm
      have hxs : xs = [] := List.length_eq_zero_iff.mp (by rw [hw2]; simp)
      subst hxs
      refine SV.val (v := .slice none 0 0) (s' := s) (fun t' ht => ?_) (Nat.le_refl _) (hR _ s H (Nat.le_refl _) hM (.inl ⟨rfl, rfl, rfl⟩) (fun _ _ h _ => h) (fun _ h => by cases h) ⟨fun h => h, fun A l c h1 h2 => (by cases h1; omega), fun a l c h1 _ => (by cases h1), fun _ _ _ h => h⟩)
      rw [unfold0 t' ht]
      simp only [appendOf, hei, hes, hw1, hf, Nat.zero_add, show Nat.ble 0 0 = true from rfl, cond_true]
    · have c0 : Nat.ble (0 + m) 0 = false := by cases e : Nat.ble (0 + m) 0 with | false => rfl | true => have := Nat.ble_eq.mp e; omega
      refine SV.val (v := .slice (some ⟨s.next, 0, none⟩) (0 + m) (0 + m)) (s' := s.push (rowO e true sz xs)) (fun t' ht => ?_) (Nat.le_succ _)
        (hR _ _ (H.up s.next (.row sz xs)) (Nat.le_succ _) (hM.push ⟨hM.low, _, by rw [St.push_get, if_pos rfl]; rfl, okB_row (fun _ => rfl)⟩)
          (.inr ⟨s.next, 0 + m, xs, rfl, Hp.up_same, by rw [hw2, Nat.zero_add], Nat.le_refl _, by rw [List.nil_append, List.take_of_length_le (by rw [hw2, Nat.zero_add]; exact Nat.le_refl _)]⟩)
          (fun μ o h _ => Hp.up_ne (hM.fresh_ne h) h) (fun μ h => by cases h; exact .inr hM.fresh) ⟨(fun _ h => by cases h), fun A l c _ _ => ⟨s.next, rfl, Hp.up_same⟩, fun a l c h1 _ => (by cases h1), fun h => by omega⟩)
      rw [unfold0 t' ht]
      simp only [appendOf, hei, hes, heb, hw1, hf, c0, cond_false, c1, c2, c3, hw3, c4, hZ.z, c5, Bool.or_self, Bool.not_true, Bool.false_or, Bool.or_false, show Nat.beq 0 0 = true from rfl, cond_true, newRow_eq]
      rfl
  · obtain ⟨hlt, hro, b, hbg, hbO⟩ := hM.ok ν _ hH
    have hnw : n * sz ≤ ws.length := by rw [hwl]; exact Nat.mul_le_mul_right _ hnc
    by_cases hfit : n + m ≤ c
    · -- there is room
      have hroom : n * sz + xs.length ≤ ws.length := by rw [hw2, hwl, ← Nat.add_mul]; exact Nat.mul_le_mul_right _ hfit
      obtain ⟨s', h1, h2⟩ := stCells_row hM hH hroom hw3
      refine SV.val (v := .slice (some ⟨ν, 0, none⟩) (n + m) c) (s' := s') (fun t' ht => ?_) (by rw [stCells_next h1]; exact Nat.le_refl _)
        (hR _ _ _ (by rw [stCells_next h1]; exact Nat.le_refl _) h2 (.inr ⟨ν, c, splice ws (n * sz) xs, rfl, Hp.up_same, by rw [splice_length hroom]; exact hwl, hfit, ?_⟩)
          (fun μ o h hne => Hp.up_ne (fun e => hne (by rw [e]; rfl)) h) (fun μ h => .inl h) ⟨(fun _ h => by cases h), fun A l c' h1 h2 => (by cases h1; omega), fun a l c' h1 _ => (by cases h1; rfl), fun h => by
            have hm0 : xs = [] := List.length_eq_zero_iff.mp (by rw [hw2, show m = 0 by omega]; simp)
            subst hm0
            rw [show splice ws (n * sz) [] = ws by unfold splice; simp, Hp.up_self hH]
            exact fun _ _ h => h⟩)
      · rw [unfold0 t' ht]
        simp only [appendOf, hei, hes, hw1, hf, show Nat.ble (n + m) c = true from Nat.ble_eq.mpr hfit, cond_true, Nat.zero_add, h1]
      · unfold splice
        rw [Nat.add_mul, ← hw2, List.take_left' (by rw [List.length_append, List.length_take, Nat.min_eq_left hnw])]
    · have c0 : Nat.ble (n + m) c = false := by cases e : Nat.ble (n + m) c with | false => rfl | true => have := Nat.ble_eq.mp e; omega
      have hlive : liveBlk s ν = some b := by simp only [liveBlk, hbg, hbO.1, cond_false]
      have post : ∀ {s0 : St} {H0 : Hp} {b' : Blk}, s0.next = s.next → Models ro s0 H0 → (∀ μ o, H0 μ = some o → H μ = some o) → (∀ μ o, H μ = some o → μ ≠ ν → H0 μ = some o) → OkB b' sz (ws.take (n * sz) ++ xs) →
          R (.slice (some ⟨s0.next, 0, none⟩) (n + m) (n + m)) (s0.push (.cells b')) := fun {s0 H0 b'} hn hM0 hsub hkeep hok => by
        refine hR _ _ (H0.up s0.next (.row sz (ws.take (n * sz) ++ xs))) (by rw [St.push_next, hn]; omega) (hM0.push ⟨hM0.low, b', by rw [St.push_get, if_pos rfl], hok⟩)
          (.inr ⟨s0.next, n + m, _, rfl, Hp.up_same, by simp only [List.length_append, List.length_take, hw2, Nat.min_eq_left hnw, Nat.add_mul], Nat.le_refl _, ?_⟩) (fun μ o h hne => ?_) (fun μ h => ?_) ⟨(fun _ h => by cases h), fun A l c' _ _ => ⟨s0.next, rfl, Hp.up_same⟩, fun a l c' h1 h2 => (by cases h1; omega), fun h => by omega⟩
        · exact (List.take_of_length_le (l := ws.take (n * sz) ++ xs) (by simp only [List.length_append, List.length_take, hw2, Nat.min_eq_left hnw, Nat.add_mul]; exact Nat.le_refl _)).symm
        · have : μ ≠ ν := fun e => hne (by rw [e]; rfl)
          exact Hp.up_ne (hM0.fresh_ne (hkeep μ o h this)) (hkeep μ o h this)
        · cases h
          right
          rw [hn]; exact hM.fresh
      cases hex : exactCap b 0 c with
      | true =>
        obtain ⟨b', g1, g2⟩ := growOf_ok (elem := e) (ν := ν) (m := m) hM hbO hnw hw2
        refine SV.val (v := .slice (some ⟨s.next, 0, none⟩) (n + m) (n + m)) (s' := s.push (.cells b')) (fun t' ht => ?_) (Nat.le_succ _) (post rfl hM (fun _ _ h => h) (fun _ _ h _ => h) g2)
        rw [unfold0 t' ht]
        simp only [appendOf, hei, hes, heb, hw1, hf, c0, cond_false, c1, c2, c3, hw3, c4, hZ.z, c5, Bool.or_self, Bool.not_true, Bool.false_or, Bool.or_false, hlive, hex, cond_true, g1]
      | false =>
        have hopn : b.opn = true := by
          cases ho : b.opn with
          | true => rfl
          | false => simp [exactCap, ho] at hex
        have hes2 : b.es = sz := hbO.2.2.2.1 hopn
        have hM0 := models_del (O := .cells { b with dead := true }) hM hlt
        obtain ⟨b', g1, g2⟩ := growOf_ok (elem := e) (ν := ν) (m := m) hM0 hbO hnw hw2
        refine SV.val (v := .slice (some ⟨s.next, 0, none⟩) (n + m) (n + m)) (s' := (s.put ν (.cells { b with dead := true })).push (.cells b')) (fun t' ht => ?_) (Nat.le_succ _)
          (post (s0 := s.put ν (.cells { b with dead := true })) rfl hM0 (fun μ o h => by by_cases e : μ = ν <;> simp only [e, if_true, if_false] at h <;> first | (cases h; done) | exact h) (fun μ o h hne => by simp only [hne, if_false]; exact h) g2)
        rw [unfold0 t' ht]
        simp only [appendOf, hei, hes, heb, hw1, hf, c0, cond_false, c1, c2, c3, hw3, c4, hZ.z, c5, Bool.or_self, Bool.not_true, Bool.false_or, Bool.or_false, hlive, hex,
          show (Nat.ble ro ν && Nat.beq b.es sz) = true from by rw [hes2, Bool.and_eq_true]; exact ⟨Nat.ble_eq.mpr hro, Nat.beq_refl _⟩, cond_true, setObjK_eq]
        exact g1

theorem bounds_to {len cap k : Nat} {i : Int} (h : i = (k : Int)) (hk : k ≤ cap) : bounds len cap none (some (.int .i64 i)) none = some (0, k, cap) := by
  subst h
  simp only [bounds, boundOr, bound1]
  simp only [show Nat.ble k cap = true from Nat.ble_eq.mpr hk, cond_true, show Nat.ble 0 k = true from Nat.ble_eq.mpr (Nat.zero_le _)]

theorem bounds_all {len cap i j : Nat} {a b : Int} (ha : a = (i : Int)) (hb : b = (j : Int)) (h1 : i ≤ j) (h2 : j ≤ cap) : bounds len cap (some (.int .i64 a)) (some (.int .i64 b)) none = some (i, j, cap) := by
  subst ha; subst hb
  simp only [bounds, boundOr, bound1]
  simp only [show Nat.ble j cap = true from Nat.ble_eq.mpr h2, cond_true, show Nat.ble i j = true from Nat.ble_eq.mpr h1]

/-- The beginning of a slice of one's own. -/
theorem SV.sliceTo {x hi : Operand} {t e : TypeId} {sz : Nat} [hT : TSlice P t e sz] {v : Value} {n : Nat} {vs : List Value} {i : Int} (hM : Models ro s H) (hx : og g x = v) (hv : SlO H v sz n vs) (hh : og g hi = .int .i64 i) (hi0 : 0 ≤ i ∧ i ≤ n)
    (hR : ∀ v', SlO H v' sz i.toNat (vs.take (i.toNat * sz)) → baseV v' = baseV v → R v' s) : SV X P ro g (.slice t x none (some hi) none) s R := by
  obtain ⟨k, rfl⟩ : ∃ k : Nat, i = (k : Int) := ⟨i.toNat, by omega⟩
  have hk : k ≤ n := by omega
  simp only [Int.toNat_natCast] at hR
  rcases hv with ⟨rfl, rfl, rfl⟩ | ⟨ν, c, ws, rfl, hH, hwl, hnc, rfl⟩
  · obtain rfl : k = 0 := by omega
    refine SV.pure (v := .slice none 0 0) (fun t' ht => ?_) (hR _ (.inl ⟨rfl, rfl, by simp⟩) rfl)
    simp only [evalOp, opv_og, ht, hx, Option.map_none, Option.map_some, hh, sliceOf, Option.isSome_none, cond_false, hT.und, hT.sz, bounds_to (len := 0) (cap := 0) rfl (Nat.le_refl 0)]
  · obtain ⟨hlt, hro, b, hbg, hbO⟩ := hM.ok ν _ hH
    have hlive : liveBlk s ν = some b := by simp only [liveBlk, hbg, hbO.1, cond_false]
    refine SV.pure (v := .slice (some ⟨ν, 0, none⟩) k c) (fun t' ht => ?_) (hR _ (.inr ⟨ν, c, ws, rfl, hH, hwl, by omega, ?_⟩) rfl)
    · simp only [evalOp, opv_og, ht, hx, Option.map_none, Option.map_some, hh, sliceOf, Option.isSome_none, cond_false, hT.und, hT.sz, bounds_to (len := n) rfl (show k ≤ c by omega), hlive]
      have e : (bif Nat.beq c 0 then (⟨ν, 0, none⟩ : Addr) else addA ⟨ν, 0, none⟩ (0 * sz)) = ⟨ν, 0, none⟩ := by rw [Nat.zero_mul]; cases Nat.beq c 0 <;> rfl
      have e2 : addA (⟨ν, 0, none⟩ : Addr) (0 * sz) = ⟨ν, 0, none⟩ := by rw [Nat.zero_mul]; rfl
      cases hex : exactCap b 0 c with
      | true => simp only [cond_true, e, Nat.sub_zero]
      | false =>
        have hopn : b.opn = true := by
          cases ho : b.opn with
          | true => rfl
          | false => simp [exactCap, ho] at hex
        simp only [cond_false, show Nat.beq b.es sz = true from by rw [hbO.2.2.2.1 hopn]; exact Nat.beq_refl _, cond_true, e2, Nat.sub_zero]
    · rw [List.take_take, Nat.min_eq_left (Nat.mul_le_mul_right _ hk)]

/-- A part of a slice over a row: it is read. -/
theorem SV.slicePart {x lo hi : Operand} {t e : TypeId} {sz : Nat} [hT : TSlice P t e sz] {ν n c : Nat} {ws : List Value} {i j : Int} (hM : Models ro s H) (hx : og g x = .slice (some ⟨ν, 0, none⟩) n c) (hH : H ν = some (.row sz ws)) (hl : og g lo = .int .i64 i) (hh : og g hi = .int .i64 j)
    (hij : 0 ≤ i ∧ i < j ∧ j ≤ c) (hR : R (.slice (some ⟨ν, i.toNat * sz, none⟩) (j.toNat - i.toNat) (c - i.toNat)) s) : SV X P ro g (.slice t x (some lo) (some hi) none) s R := by
  obtain ⟨a, rfl⟩ : ∃ k : Nat, i = (k : Int) := ⟨i.toNat, by omega⟩
  obtain ⟨b', rfl⟩ : ∃ k : Nat, j = (k : Int) := ⟨j.toNat, by omega⟩
  obtain ⟨hlt, hro, b, hbg, hbO⟩ := hM.ok ν _ hH
  have hlive : liveBlk s ν = some b := by simp only [liveBlk, hbg, hbO.1, cond_false]
  refine SV.pure (fun t' ht => ?_) hR
  have hca : Nat.beq c a = false := by cases e : Nat.beq c a with | false => rfl | true => have := Nat.eq_of_beq_eq_true e; omega
  simp only [Int.toNat_natCast, evalOp, opv_og, ht, hx, Option.map_none, Option.map_some, hh, hl, sliceOf, Option.isSome_none, cond_false, hT.und, hT.sz, bounds_all (len := n) rfl rfl (show a ≤ b' by omega) (show b' ≤ c by omega), hlive, hca, cond_false, addA_spot, Nat.zero_add]
  cases hex : exactCap b 0 c with
  | true => simp only [cond_true]
  | false =>
    have hopn : b.opn = true := by
      cases ho : b.opn with
      | true => rfl
      | false => simp [exactCap, ho] at hex
    simp only [cond_false, show Nat.beq b.es sz = true from by rw [hbO.2.2.2.1 hopn]; exact Nat.beq_refl _, cond_true]

theorem repL_length (z : List Value) : ∀ n, (repeatL z n).length = n * z.length
  | 0 => by simp [repeatL]
  | n + 1 => by simp only [repeatL, List.length_append, repL_length z n, Nat.add_mul, Nat.one_mul]; omega
theorem repL_get {z : List Value} (hz : z ≠ []) : ∀ (n i : Nat), i < n * z.length → (repeatL z n)[i]? = z[i % z.length]?
  | 0, i, h => by omega
  | n + 1, i, h => by
    have hp : 0 < z.length := List.length_pos_iff.mpr hz
    simp only [repeatL]
    rw [List.getElem?_append]
    by_cases hi : i < z.length
    · rw [if_pos hi, Nat.mod_eq_of_lt hi]
    · rw [if_neg hi, repL_get hz n (i - z.length) (by rw [Nat.add_mul] at h; omega)]
      congr 1
      rw [← Nat.mod_eq_sub_mod (by omega)]
theorem SV.makeSliceM {l c : Operand} {t e : TypeId} {sz bytes : Nat} {z : List Value} [hT : TSlice P t e sz] [hI : TInfo P e sz bytes] [hZ : TZero P e z] {kl kc : IntKind} {n m : Int} (hM : Models ro s H) (hl : og g l = .int kl n) (hc : og g c = .int kc m)
    (hb : 0 ≤ n ∧ n ≤ m ∧ m ≤ 9223372036854775807 ∧ bytes * m ≤ 281474976710656 ∧ z.length = sz ∧ 0 < z.length)
    (hR : ∀ a s', H a = none → (∀ ν o, H ν = some o → ν ≠ a) → s.next ≤ s'.next → Models ro s' (H.up a (.row sz (repeatL z m.toNat))) → R (.slice (some ⟨a, 0, none⟩) n.toNat m.toNat) s') : SV X P ro g (.makeSlice t l c) s R := by
  obtain ⟨n, rfl⟩ : ∃ k : Nat, n = (k : Int) := ⟨n.toNat, by omega⟩
  obtain ⟨m, rfl⟩ : ∃ k : Nat, m = (k : Int) := ⟨m.toNat, by omega⟩
  obtain ⟨ei, hei, hes, heb⟩ := hI.ok
  obtain ⟨_, h1, h2, h3, h4, h5⟩ := hb
  simp only [Int.toNat_natCast] at hR ⊢
  have hz : z ≠ [] := fun e => by rw [e] at h5; simp at h5
  have h3' : bytes * m ≤ 281474976710656 := by
    have : ((bytes * m : Nat) : Int) = (bytes : Int) * (m : Int) := Int.natCast_mul _ _
    omega
  refine SV.val (v := .slice (some ⟨s.next, 0, none⟩) n m) (s' := s.push (.cells { cells := .leaf, n := m * sz, z := z, elem := e, opn := false, es := 0, str := false, dead := false })) (fun t' ht => ?_) (Nat.le_succ _)
    (hR _ _ hM.fresh (fun _ _ h => hM.fresh_ne h) (Nat.le_succ _) (hM.push ⟨hM.low, _, by rw [St.push_get, if_pos rfl], rfl, rfl, by rw [repL_length, h4], (fun h => by cases h), fun i v hv => ?_⟩))
  · simp only [evalOp, opv_og, ht, hl, hc, hT.und, hT.sz, hZ.z, hei]
    have e0 : (Nat.ble n m && Nat.ble m 9223372036854775807 && Nat.ble (ei.bytes * m) 281474976710656 && Nat.beq z.length sz) = true := by
      rw [heb, h4]
      simp only [Bool.and_eq_true]
      exact ⟨⟨⟨Nat.ble_eq.mpr (by omega), Nat.ble_eq.mpr (by omega)⟩, Nat.ble_eq.mpr h3'⟩, Nat.beq_refl _⟩
    show (bif Nat.ble n m && Nat.ble m 9223372036854775807 && Nat.ble (ei.bytes * m) 281474976710656 && Nat.beq z.length sz then _ else none) = _
    rw [e0]
    simp only [cond_true, newObjK_eq]
    rfl
  · have hi : i < m * sz := by
      have := (List.getElem?_eq_some_iff.mp hv).1
      rwa [repL_length, h4] at this
    unfold cellAt
    simp only [show Nat.blt i (m * sz) = true from Nat.blt_eq.mpr hi, cond_true, T.get_leaf, nth_eq]
    rw [repL_get hz _ _ (by rw [h4]; exact hi)] at hv
    exact hv

theorem SV.buildSliceM {t e : TypeId} {sz len : Nat} {z l : List Value} {ps : Array (Nat × Operand)} [hT : TSlice P t e sz] [hZ : TZero P e z] (hM : Models ro s H)
    (hf : fillL (fun i => some (i * sz, sz)) (repeatL z len) (ps.toList.map fun (i, x) => (i, og g x)) = some l) (hb : (Nat.ble (len * sz) 16777216 && Nat.beq z.length sz) = true)
    (hR : ∀ a s', H a = none → (∀ ν o, H ν = some o → ν ≠ a) → s.next ≤ s'.next → Models ro s' (H.up a (.row sz l)) → R (.slice (some ⟨a, 0, none⟩) len len) s') : SV X P ro g (.buildSlice t len ps) s R := by
  refine SV.val (v := .slice (some ⟨s.next, 0, none⟩) len len) (s' := s.push (rowO e false 0 l)) (fun t' ht => ?_) (Nat.le_succ _)
    (hR _ _ hM.fresh (fun _ _ h => hM.fresh_ne h) (Nat.le_succ _) (hM.push ⟨hM.low, _, by rw [St.push_get, if_pos rfl]; rfl, okB_row (fun h => by cases h)⟩))
  have e1 : opv t' = og g := by funext x; rw [opv_og, ht]
  simp only [evalOp, e1, hT.und, hT.sz, hZ.z, hb, cond_true, hf, newRow_eq]
  rfl

theorem SV.build {t : TypeId} {z l : List Value} {pl : List (Nat × Nat)} {ps : Array (Nat × Operand)} [hZ : TZero P t z] [hP : TPlaces P t pl] (hf : fillL (nth pl) z (ps.toList.map fun (i, x) => (i, og g x)) = some l) (hR : R (.agg l.toArray) s) :
    SV X P ro g (.build t ps) s R := by
  obtain ⟨fs, h1, h2⟩ := hP.ok
  refine SV.pure (fun t' ht => ?_) hR
  have e1 : opv t' = og g := by funext x; rw [opv_og, ht]
  simp only [evalOp, e1, hZ.z, h1, h2, hf]
theorem SV.buildA {t e : TypeId} {len sz : Nat} {z l : List Value} {ps : Array (Nat × Operand)} [hZ : TZero P t z] [hA : TArr P t len e sz] (hf : fillL (fun i => some (i * sz, sz)) z (ps.toList.map fun (i, x) => (i, og g x)) = some l) (hR : R (.agg l.toArray) s) :
    SV X P ro g (.build t ps) s R := by
  refine SV.pure (fun t' ht => ?_) hR
  have e1 : opv t' = og g := by funext x; rw [opv_og, ht]
  simp only [evalOp, e1, hZ.z, hA.und, hA.sz, hf]
end
end
end Go.Ab

namespace Go.Ab
noncomputable section
theorem Hp.up_fresh {H : Hp} {a μ : Nat} {x o : Obj} (h : ∀ ν o, H ν = some o → ν ≠ a) (h2 : H μ = some o) : (H.up a x) μ = some o := Hp.up_ne (h _ _ h2) h2
theorem flat_get {α : Type} (enc : α → List Value) (sz : Nat) (h : ∀ a, (enc a).length = sz) : ∀ (L : List α) (j : Nat) (hj : j < L.length) (i : Nat), i < sz → (L.flatMap enc)[j * sz + i]? = (enc L[j])[i]?
  | [], j, hj, _, _ => absurd hj (by simp)
  | a :: L, 0, _, i, hi => by
    simp only [List.flatMap_cons, Nat.zero_mul, Nat.zero_add, List.getElem_cons_zero]
    rw [List.getElem?_append_left (by rw [h]; exact hi)]
  | a :: L, j + 1, hj, i, hi => by
    simp only [List.flatMap_cons, List.getElem_cons_succ]
    rw [List.getElem?_append_right (by rw [h, Nat.add_mul]; omega), h]
    rw [show (j + 1) * sz + i - sz = j * sz + i by rw [Nat.add_mul]; omega]
    exact flat_get enc sz h L j (by simpa using hj) i hi
theorem flat_length {α : Type} (enc : α → List Value) (sz : Nat) (h : ∀ a, (enc a).length = sz) : ∀ (L : List α), (L.flatMap enc).length = L.length * sz
  | [] => by simp
  | a :: L => by simp only [List.flatMap_cons, List.length_append, h, flat_length enc sz h L, List.length_cons, Nat.add_mul]; omega
theorem flat_take {α : Type} (enc : α → List Value) (sz : Nat) (h : ∀ a, (enc a).length = sz) : ∀ (L : List α) (k : Nat), (L.flatMap enc).take (k * sz) = (L.take k).flatMap enc
  | [], k => by simp
  | a :: L, 0 => by simp
  | a :: L, k + 1 => by
    simp only [List.flatMap_cons, List.take_succ_cons]
    rw [List.take_append, h, List.take_of_length_le (by rw [h, Nat.add_mul]; omega), show (k + 1) * sz - sz = k * sz by rw [Nat.add_mul]; omega, flat_take enc sz h L k]

theorem SlO.nonnil {H : Hp} {v : Value} {sz n : Nat} {vs : List Value} (h : SlO H v sz n vs) (hp : 0 < n) : ∃ ν c, v = .slice (some ⟨ν, 0, none⟩) n c := by
  rcases h with ⟨_, rfl, _⟩ | ⟨ν, c, ws, rfl, _⟩
  · omega
  · exact ⟨ν, c, rfl⟩
/-- The cells of an element of a slice of one's own. -/
theorem SlO.at {α : Type} {H : Hp} {v : Value} {sz n : Nat} {enc : α → List Value} {L : List α} (h : SlO H v sz n (L.flatMap enc)) (he : ∀ a, (enc a).length = sz) (hn : L.length = n) (hp : 0 < n) :
    ∃ ν c ws, v = .slice (some ⟨ν, 0, none⟩) n c ∧ H ν = some (.row sz ws) ∧ ws.length = c * sz ∧ n ≤ c ∧ ws.take (n * sz) = L.flatMap enc ∧ ∀ (j : Nat) (hj : j < L.length) (i : Nat) (u : Value), (enc L[j])[i]? = some u → ws[j * sz + i]? = some u := by
  rcases h with ⟨_, rfl, _⟩ | ⟨ν, c, ws, rfl, h1, h2, h3, h4⟩
  · omega
  · refine ⟨ν, c, ws, rfl, h1, h2, h3, h4.symm, fun j hj i u hu => ?_⟩
    have hi : i < sz := by have := (List.getElem?_eq_some_iff.mp hu).1; rwa [he] at this
    have := flat_get enc sz he L j hj i hi
    rw [h4] at this
    rw [List.getElem?_take] at this
    have hlt : j * sz + i < n * sz := by
      have : (j + 1) * sz ≤ n * sz := Nat.mul_le_mul_right _ (by omega)
      rw [Nat.add_mul] at this; omega
    rw [if_pos hlt, hu] at this
    exact this

section
variable {X : CallE} {P : Program} {ro : Nat} {g : Gm} {s : St} {R : Value → St → Prop} {x y : Operand} {t yt e : TypeId} {n : Nat}
theorem SV.lenO {H : Hp} {ts : Array TypeId} {sz k : Nat} {v : Value} {vs : List Value} [h : TSlice P t e n] (hts : ts.toList = [t]) (hx : og g x = v) (hv : SlO H v sz k vs) (hR : R (.int .i64 k) s) :
    SV X P ro g (.call ⟨.builtin .len, #[x], ts⟩) s R := by
  rcases hv with ⟨rfl, rfl, _⟩ | ⟨ν, c, ws, rfl, _⟩
  · exact SV.len hts hx hR
  · exact SV.len hts hx hR
theorem SV.eqlSlN [h : TSlice P t e n] {a : Addr} {l c l' c' : Nat} (hx : og g x = .slice (some a) l c) (hy : og g y = .slice none l' c') (hR : R (.bool false) s) : SV X P ro g (.binOp .eql t x y yt) s R :=
  SV.eqlV hx hy rfl (by simp only [eqV, h.und]) hR
theorem SV.eqlPtrN {et : TypeId} (h : P.underlying t = some (.pointer et)) {a : Addr} (hx : og g x = .pointer (some a)) (hy : og g y = .pointer none) (hR : R (.bool false) s) : SV X P ro g (.binOp .eql t x y yt) s R :=
  SV.eqlV hx hy rfl (by simp only [eqV, h]) hR
theorem SV.eqlPtrNN {et : TypeId} (h : P.underlying t = some (.pointer et)) (hx : og g x = .pointer none) (hy : og g y = .pointer none) (hR : R (.bool true) s) : SV X P ro g (.binOp .eql t x y yt) s R :=
  SV.eqlV hx hy rfl (by simp only [eqV, h]) hR
theorem SV.neqB (h : P.underlying t = some .bool) {a b : Bool} (hx : og g x = .bool a) (hy : og g y = .bool b) (hR : R (.bool (a != b)) s) : SV X P ro g (.binOp .neq t x y yt) s R :=
  SV.neqV hx hy rfl (by simp only [eqV, h]) hR
theorem SV.eqlB (h : P.underlying t = some .bool) {a b : Bool} (hx : og g x = .bool a) (hy : og g y = .bool b) (hR : R (.bool (a == b)) s) : SV X P ro g (.binOp .eql t x y yt) s R :=
  SV.eqlV hx hy rfl (by simp only [eqV, h]) hR
end
section
variable {P : Program} {ro : Nat} {g : Gm} {s : St} {H H2 : Hp}
theorem fin_cellA2 {fn : Func} {n a ν es k : Nat} {t : TypeId} {Post : Value → Hp → Prop} {e : Ex} {vs : List Value} [h : TAgg P t k] (hr : fn.results = #[.cell a t]) (he : (match e with | .normal => True | .ret => True | _ => False))
    (hv : g a = some (.pointer (some ⟨ν, 0, none⟩))) (hH : H ν = some (.row es vs)) (hk : vs.length = k) (hn : n ≤ s.next) (hM : Models ro s H) (hM2 : Models ro s H2) (hP : Post (.agg vs.toArray) H2) : FinM P ro n fn Post e g [] s :=
  ⟨he, rfl, _, fun t' ht => by simp only [retOf, hr, resultsOf, ht, hv, ldVar, h.ag, h.sz, ldCells_row hM hH hk (fun i v e => by rw [Nat.zero_add]; exact e)], hn, H2, hM2, hP⟩
end
end
end Go.Ab

namespace Go.Ab
noncomputable section
theorem thn_n {f : Gm → List Deferred → St → Prop} {Q : Ex → Gm → List Deferred → St → Prop} {g : Gm} {ds : List Deferred} {s : St} (h : f g ds s) : thn f Q .normal g ds s := h
/-! ### Arrays as values; maps with whole numbers as keys -/
section
variable {X : CallE} {P : Program} {ro : Nat} {g : Gm} {s : St} {H : Hp} {R : Value → St → Prop}
theorem SV.index {t e : TypeId} {len n : Nat} {x ix : Operand} [h : TArr P t len e n] [hc : TCell P e] {cs : Array Value} {k : IntKind} {i : Int} {v : Value} (hx : og g x = .agg cs) (hi : og g ix = .int k i) (h0 : 0 ≤ i ∧ i < len) (hv : nth cs.toList i.toNat = some v)
    (hR : R v s) : SV X P ro g (.index t x ix) s R := by
  refine SV.pure (fun t' ht => ?_) hR
  obtain ⟨m, rfl⟩ : ∃ m : Nat, i = Int.ofNat m := ⟨i.toNat, by simp; omega⟩
  have hlt : Nat.blt m len = true := by rw [Nat.blt_eq]; have := h0.2; simp at this; omega
  have hn : szOf P e = some 1 := hc.sz
  simp only [evalOp, opv_og, ht, hx, hi, h.und, hlt, cond_true, hn, partOf, hc.ag, Nat.mul_one]
  have : m = (Int.ofNat m).toNat := rfl
  rw [this, hv]
end
def encM (L : List (Int × Value)) : List (Value × Value) := L.map fun p => (.int .i64 p.1, p.2)
def mget : List (Int × Value) → Int → Option Value
  | [], _ => none
  | (a, v) :: L, k => if k = a then some v else mget L k
def mput : List (Int × Value) → Int → Value → List (Int × Value)
  | [], k, v => [(k, v)]
  | (a, w) :: L, k, v => if k = a then (k, v) :: L else (a, w) :: mput L k v
theorem mget_mput (k : Int) (v : Value) (j : Int) : ∀ L, mget (mput L k v) j = if j = k then some v else mget L j
  | [] => rfl
  | (a, w) :: L => by
    unfold mput
    split
    · rename_i h; subst h; simp only [mget]
      split <;> rfl
    · rename_i h
      simp only [mget, mget_mput k v j L]
      by_cases e : j = a
      · rw [if_pos e, if_neg (fun e2 => h (e2.symm.trans e))]; simp [e]
      · rw [if_neg e]
        split <;> rfl
theorem findK_enc (k : Int) (w : Value) : ∀ (L : List (Int × Value)) (es : List MapEntry) (n : Nat), es.map (fun e => (e.key, e.val)) = encM L →
    (match mget L k with
     | none => findK (.int .i64) (.int .i64 k) es n = some none ∧ ∀ b, (es ++ [({ key := .int .i64 k, val := w, born := b } : MapEntry)]).map (fun e : MapEntry => (e.key, e.val)) = encM (mput L k w)
     | some v => ∃ i, findK (.int .i64) (.int .i64 k) es n = some (some (n + i, v)) ∧ (setAt (fun e : MapEntry => { e with key := .int .i64 k, val := w }) es i).map (fun e => (e.key, e.val)) = encM (mput L k w))
  | [], [], n, _ => ⟨rfl, fun b => rfl⟩
  | [], _ :: _, n, h => by cases h
  | _ :: _, [], n, h => by cases h
  | (a, v) :: L, e :: es, n, h => by
    simp only [encM, List.map_cons, List.cons.injEq, Prod.mk.injEq] at h
    obtain ⟨⟨h1, h2⟩, h3⟩ := h
    have ih := findK_enc k w L es (n + 1) h3
    unfold mget mput
    have hs : sameKey (.int .i64) (.int .i64 k) e.key = some (decide (k = a)) := by
      rw [h1]; simp only [sameKey, if_true, eqI_eq]; rfl
    by_cases hk : k = a
    · rw [if_pos hk, if_pos hk]
      refine ⟨0, ?_, ?_⟩
      · simp only [findK, hs, decide_eq_true hk, h2, Nat.add_zero]
      · simp only [setAt, List.map_cons, encM]; rw [h3]
    · rw [if_neg hk, if_neg hk]
      cases hm : mget L k with
      | none =>
        rw [hm] at ih
        refine ⟨by simp only [findK, hs, decide_eq_false hk]; exact ih.1, fun b => ?_⟩
        rw [List.cons_append, List.map_cons, ih.2 b, h1, h2]; rfl
      | some u =>
        rw [hm] at ih
        obtain ⟨i, e1, e2⟩ := ih
        refine ⟨i + 1, ?_, ?_⟩
        · simp only [findK, hs, decide_eq_false hk, e1]; congr 3; omega
        · simp only [setAt, List.map_cons]; rw [e2, h1, h2]; rfl
section
variable {X : CallE} {P : Program} {ro : Nat} {g : Gm} {s : St} {H : Hp} {R : Value → St → Prop}
theorem SV.makeMapM {t : TypeId} (hM : Models ro s H) (hR : ∀ a s', H a = none → (∀ ν o, H ν = some o → ν ≠ a) → s.next ≤ s'.next → Models ro s' (H.up a (.map (encM []))) → R (.map (some a)) s') : SV X P ro g (.makeMap t none) s R := by
  refine SV.val (s' := s.push (.map [] 0)) (fun t' ht => ?_) (Nat.le_succ _) (hR _ _ hM.fresh (fun _ _ h => hM.fresh_ne h) (Nat.le_succ _) (hM.push ⟨hM.low, [], 0, ?_, rfl⟩))
  · simp only [evalOp, newObjK_eq]; rfl
  · rw [St.push_get, if_pos rfl]
theorem SV.lookupM {t ke e : TypeId} {x y : Operand} [h : TMap P t ke e (.int .i64)] {ν : Nat} {L : List (Int × Value)} {k : Int} {z v : Value} (hM : Models ro s H) (hx : og g x = .map (some ν)) (hy : og g y = .int .i64 k) (hH : H ν = some (.map (encM L)))
    (hz : zeroOf P e = some z) (hv : (mget L k).getD z = v) (hR : R v s) : SV X P ro g (.lookup t x y false) s R := by
  refine SV.pure (fun t' ht => ?_) hR
  obtain ⟨_, _, es, c, he, hm⟩ := hM.ok _ _ hH
  have hf := findK_enc k z L es 0 hm
  simp only [evalOp, opv_og, ht, hx, hy, lookupOf, h.und, h.key, basicKey, cond_true, mapOf, he]
  cases hg : mget L k with
  | none => rw [hg] at hf hv; simp only [hf.1, hz, cond_false]; rw [← hv]; rfl
  | some u => rw [hg] at hf hv; obtain ⟨i, e1, _⟩ := hf; simp only [e1, cond_false]; rw [← hv]; rfl
theorem SV.mapUpdateM {t ke e : TypeId} {x y w : Operand} [h : TMap P t ke e (.int .i64)] {ν : Nat} {L : List (Int × Value)} {k : Int} {v : Value} (hM : Models ro s H) (hx : og g x = .map (some ν)) (hy : og g y = .int .i64 k) (hw : og g w = v) (hH : H ν = some (.map (encM L)))
    (hR : ∀ s', s.next ≤ s'.next → Models ro s' (H.up ν (.map (encM (mput L k v)))) → R und s') : SV X P ro g (.mapUpdate t x y w) s R := by
  obtain ⟨hlt, hro, es, c, he, hm⟩ := hM.ok _ _ hH
  have hf := findK_enc k v L es 0 hm
  have hbl : Nat.ble ro ν = true := Nat.ble_eq.mpr hro
  cases hg : mget L k with
  | none =>
    rw [hg] at hf
    refine SV.val (s' := s.put ν (.map (es ++ [{ key := .int .i64 k, val := v, born := c }]) (c + 1))) (fun t' ht => ?_) (Nat.le_refl _) (hR _ (Nat.le_refl _) (hM.put hlt ⟨hro, es ++ [{ key := .int .i64 k, val := v, born := c }], c + 1, ?_, hf.2 c⟩))
    · simp only [evalOp, opv_og, ht, hx, hy, hw, mapUpd, h.und, h.key, mapOf, he, basicKey, hbl, Bool.and_self, cond_true, hf.1, setObjK_eq]; rfl
    · rw [St.put_get, if_pos rfl]
  | some u =>
    rw [hg] at hf
    obtain ⟨i, e1, e2⟩ := hf
    rw [Nat.zero_add] at e1
    refine SV.val (s' := s.put ν (.map (setAt (fun e : MapEntry => { e with key := .int .i64 k, val := v }) es i) c)) (fun t' ht => ?_) (Nat.le_refl _) (hR _ (Nat.le_refl _) (hM.put hlt ⟨hro, setAt (fun e : MapEntry => { e with key := .int .i64 k, val := v }) es i, c, ?_, e2⟩))
    · simp only [evalOp, opv_og, ht, hx, hy, hw, mapUpd, h.und, h.key, mapOf, he, basicKey, hbl, Bool.and_self, cond_true, e1, setObjK_eq]; rfl
    · rw [St.put_get, if_pos rfl]
end
end
end Go.Ab

namespace Go.Ab
noncomputable section
theorem Src.rd {P : Program} {ro : Nat} {H : Hp} {ν o n c sz : Nat} {f : Nat → Option Value} {xs : List Value} (hH : H ν = some (.rd f)) (hx : xs.length = n * sz) (h1 : xs.all oneC = true) (hv : ∀ i v, xs[i]? = some v → f (o + i) = some v) :
    Src P ro H (.slice (some ⟨ν, o, none⟩) n c) sz n xs := ⟨rfl, hx, h1, fun s hM => by
  have hr := (hM.ok ν _ hH).2
  simp only [firstL]
  rw [← hx]
  cases xs with
  | nil => rfl
  | cons x xs =>
    have h0 := hr _ _ (hv 0 x rfl)
    unfold ldCell at h0
    cases hb : liveBlk s ν with
    | none => rw [hb] at h0; cases h0
    | some b =>
      simp only [List.length_cons, ldCells, hb]
      refine cellsFrom_of _ _ _ rfl fun i v e => ?_
      have := hr _ _ (hv i v e)
      unfold ldCell at this
      rw [hb] at this
      exact this⟩
end
end Go.Ab

namespace Go.Ab
noncomputable section
theorem evX_callS {P : Program} {B ro : Nat} {X : CallE} (hn : namesOk P = true) (hX : CallS P B ro X) : ∀ k, CallS P B ro (evX X P ro k)
  | 0 => hX
  | k + 1 => fun f args s r h => by
    unfold evX at h
    split at h
    · rename_i r' h'
      cases h
      exact hX f args s _ h'
    · exact layer_sim (fnsOf_ok hn) (evX_callS hn hX k) k f args s r h
/-- A call that turns nothing that was there is a step that leaves the abstract state. -/
theorem Step.ofBelow {B ro : Nat} {ρ : Ren} {s : St} {w w' : World} (h : Rel B ro ρ s.heap.get w) (hb : Go.RowKit.Below w.heap.size w w') : Step B ro ρ s w ρ s w' where
  le := Ren.le_refl ρ
  next := Nat.le_refl _
  dom := fun ν i h1 h2 => by rw [h1] at h2; cases h2
  rel := { base := Nat.le_trans h.base hb.size, inb := fun ν i e => Nat.lt_of_lt_of_le (h.inb ν i e) hb.size, own := h.own, rdo := h.rdo, inj := h.inj, obj := fun ν i o e1 e2 => (h.obj ν i o e1 e2).congr (hb.block _ (h.inb ν i e1)) }
  blk := fun ν i h1 h2 => by rw [h1] at h2; cases h2
  frm := fun β hβ _ => hb.block β hβ
  liv := fun _ _ _ h => h
  siz := hb.size
  os := hb.os
  tape := hb.tape
  output := hb.output
  wf := id
/-- What the logic shows of a function, told of the model: it returns true, and turns nothing that was there. -/
theorem calls_of_sp {P : Program} {ro : Nat} {X : CallE} {f : FuncId} {args : List Value} {s : St} {ρ : Ren} {W : World} {args' : Array Value} (hn : namesOk P = true) (hX : CallS P W.heap.size ro X)
    (h : Sp X P ro f args s fun v _ => v = .bool true) (hr : Rel W.heap.size ro ρ s.heap.get W) (hro : ro ≤ s.next) (hwf : Wf s) (ha : VRs ρ args args'.toList) (hf : ∀ s', Fresh ρ s s') :
    Calls P f args' W fun e W' => e = .returned (.bool true) ∧ Go.RowKit.Below W.heap.size W W' := by
  obtain ⟨v, s', ⟨K, hK⟩, _, H', _, rfl⟩ := h
  obtain ⟨_, hc⟩ := evX_callS hn hX K f args s _ (hK K (Nat.le_refl _)) ρ W args' hr hro hwf ha (hf _)
  refine hc.mono fun e W' ⟨ρ', h1, h2⟩ => ⟨?_, h1.below hr⟩
  cases e with
  | returned v' => rw [VR.bool_inv h2]
  | panicked c => exact h2.elim
  | outgrown => exact h2.elim
end
end Go.Ab

namespace Go.Ab
noncomputable section
/-! ### The start: a row of whole numbers handed in -/

/-- A handed row of whole numbers: at no address, or from an address on. -/
structure Handed (W : World) (a : Option Addr) (len cap : Nat) (C : List Int) : Prop where
  long : C.length = len
  nil : a = none → len = 0 ∧ cap = 0
  spot : ∀ x, a = some x → x.spot = none ∧ ∃ cs t fr, W.heap[x.block]? = some (.cells cs t fr)
  cell : ∀ x, a = some x → ∀ i v, C[i]? = some v → W.cell? (x.add i) = some (.int .i64 v)

def hObj (off : Nat) (C : List Int) (n : Nat) : AObj := .cells { cells := T.sets (C.map (.int .i64)) off .leaf, n, z := [], elem := 0, opn := false, es := 0, str := true, dead := false }
def hSt (off : Nat) (C : List Int) (n : Nat) : St := ⟨T.set .leaf 0 (hObj off C n), 1⟩
def hHp (off : Nat) (C : List Int) : Hp := fun ν => if ν = 0 then some (.rd fun i => if off ≤ i then (C.map (Value.int .i64))[i - off]? else none) else none

theorem hSt_get (off : Nat) (C : List Int) (n ν : Nat) : (hSt off C n).heap.get ν = if ν = 0 then some (hObj off C n) else none := by
  unfold hSt
  rw [T.get_set, T.get_leaf]

theorem hCell {off : Nat} {C : List Int} {n i : Nat} {v : Value} (h : cellAt { cells := T.sets (C.map (Value.int .i64)) off .leaf, n, z := [], elem := 0, opn := false, es := 0, str := true, dead := false } i = some v) : off ≤ i ∧ (C.map (Value.int .i64))[i - off]? = some v := by
  simp only [cellAt, T.get_sets, T.get_leaf] at h
  cases hb : Nat.blt i n with
  | false => rw [hb] at h; cases h
  | true =>
    rw [hb] at h
    simp only [cond_true] at h
    by_cases hc : off ≤ i ∧ i < off + (C.map (Value.int .i64)).length
    · rw [if_pos hc] at h
      refine ⟨hc.1, ?_⟩
      rw [List.getElem?_eq_getElem (by omega)] at h ⊢
      exact h
    · rw [if_neg hc] at h
      cases h

theorem hCellB {off : Nat} {C : List Int} {n i : Nat} {v : Value} (hn : off + C.length ≤ n) (h0 : off ≤ i) (h : (C.map (Value.int .i64))[i - off]? = some v) :
    cellAt { cells := T.sets (C.map (Value.int .i64)) off .leaf, n, z := [], elem := 0, opn := false, es := 0, str := true, dead := false } i = some v := by
  have hl := (List.getElem?_eq_some_iff.mp h).1
  have hl2 := hl
  rw [List.length_map] at hl2
  simp only [cellAt, T.get_sets]
  rw [show Nat.blt i n = true from Nat.blt_eq.mpr (by omega), cond_true, if_pos ⟨h0, by omega⟩, h]

theorem hModels {off : Nat} {C : List Int} {n : Nat} (hn : C = [] ∨ off + C.length ≤ n) : Models 1 (hSt off C n) (hHp off C) where
  low := Nat.le_refl _
  ok := fun ν o e => by
    unfold hHp at e
    by_cases hν : ν = 0
    · rw [if_pos hν] at e; cases e; subst hν
      refine ⟨Nat.zero_lt_one, fun i v h => ?_⟩
      by_cases h0 : off ≤ i
      · simp only [if_pos h0] at h
        simp only [ldCell, liveBlk, hSt_get, if_true, hObj, cond_false]
        rcases hn with rfl | hn
        · cases h
        · exact hCellB hn h0 h
      · simp only [if_neg h0] at h; cases h
    · rw [if_neg hν] at e; cases e

theorem hSrc {P : Program} {H : Hp} {off len cap : Nat} {C : List Int} (hl : C.length = len) (hH : ∀ ν o, hHp off C ν = some o → H ν = some o) : Src P 1 H (.slice (some ⟨0, off, none⟩) len cap) 1 len (C.map (.int .i64)) :=
  Src.rd (hH 0 _ (by unfold hHp; rw [if_pos rfl])) (by rw [List.length_map, hl, Nat.mul_one]) (by rw [List.all_map]; simp [oneC]) fun i v h => by
    rw [if_pos (Nat.le_add_right _ _), Nat.add_sub_cancel_left]; exact h

theorem hRel {W : World} {x : Addr} {off : Nat} {cs : Array Value} {t : TypeId} {fr : Nat × Nat} {C : List Int} (hb : W.heap[x.block]? = some (.cells cs t fr)) (hs : x.spot = none) (ho : C ≠ [] → off = x.off)
    (hc : ∀ i v, C[i]? = some v → W.cell? (x.add i) = some (.int .i64 v)) :
    Rel W.heap.size 1 (fun ν => if ν = 0 then some ⟨x.block, 0, cs.size, cs.size, 0, false, true⟩ else none) (hSt off C cs.size).heap.get W where
  base := Nat.le_refl _
  inb := fun ν i e => by
    by_cases hν : ν = 0
    · rw [if_pos hν] at e; cases e; exact (Array.getElem?_eq_some_iff.mp hb).1
    · rw [if_neg hν] at e; cases e
  own := fun ν i e h => by rw [if_neg (by omega)] at e; cases e
  rdo := fun ν i e h => by
    by_cases hν : ν = 0
    · rw [if_pos hν] at e; cases e; exact (Array.getElem?_eq_some_iff.mp hb).1
    · rw [if_neg hν] at e; cases e
  inj := fun ν μ i j e1 e2 r1 r2 _ _ _ => by rw [if_neg (by omega)] at e1; cases e1
  obj := fun ν i o e e' => by
    rw [hSt_get] at e'
    by_cases hν : ν = 0
    · rw [if_pos hν] at e e'; cases e; cases e'
      refine ⟨rfl, rfl, rfl, fun _ => ⟨cs, t, fr, hb, rfl, by simp, (fun h => by cases h), (fun h => by cases h), fun _ => ⟨rfl, rfl⟩, fun j v h => ?_⟩⟩
      obtain ⟨h1, h2⟩ := hCell h
      rw [List.getElem?_map] at h2
      cases hv : C[j - off]? with
      | none => rw [hv] at h2; cases h2
      | some z =>
        rw [hv] at h2; cases h2
        have hne : C ≠ [] := fun e => by subst e; cases hv
        have hw := hc _ _ hv
        obtain rfl := ho hne
        refine ⟨.int .i64 z, ?_, .int _ _⟩
        simp only [Nat.zero_add]
        obtain ⟨xb, xo, xs⟩ := x
        simp only at hs hb h1 hw
        subst hs
        have ha : (⟨xb, xo, none⟩ : Addr).add (j - xo) = ⟨xb, j, none⟩ := by
          unfold Addr.add
          by_cases hz : j - xo = 0
          · rw [if_pos hz]; congr 1; omega
          · rw [if_neg hz]; congr 1; simp only; omega
        rw [ha] at hw
        simpa [World.cell?, hb] using hw
    · rw [if_neg hν] at e; cases e

/-- From the logic to the model, for a function of a handed row and more. -/
theorem calls_of_handed {P : Program} {f : FuncId} {W : World} {a : Option Addr} {len cap : Nat} {C : List Int} {more : List Value} (hn : namesOk P = true) (hW : Handed W a len cap C) (hmore : ∀ v ∈ more, closedV 3 v = true)
    (X : CallE) (hX : CallS P W.heap.size 1 X)
    (h : ∀ (s : St) (H : Hp) (A : Option Addr) (c : Nat), Models 1 s H → (∀ H' : Hp, (∀ ν o, H ν = some o → H' ν = some o) → Src P 1 H' (.slice A len c) 1 len (C.map (.int .i64))) → Sp X P 1 f (.slice A len c :: more) s fun v _ => v = .bool true) :
    Calls P f (.slice a len cap :: more).toArray W fun e W' => e = .returned (.bool true) ∧ Go.RowKit.Below W.heap.size W W' := by
  have hm : ∀ ρ, VRs ρ more more := fun ρ => L2.refl_of fun v hv => closed_refl 3 v (hmore v hv)
  cases a with
  | none =>
    obtain ⟨rfl, rfl⟩ := hW.nil rfl
    obtain rfl : C = [] := List.length_eq_zero_iff.mp hW.long
    have hr : Rel W.heap.size 1 (fun _ => none) (T.leaf : T AObj).get W :=
      { base := Nat.le_refl _, inb := (fun _ _ e => by cases e), own := (fun _ _ e => by cases e), rdo := (fun _ _ e => by cases e), inj := (fun _ _ _ _ e => by cases e), obj := (fun _ _ _ e => by cases e) }
    refine calls_of_sp (s := ⟨.leaf, 1⟩) (ρ := fun _ => none) (args := .slice none 0 0 :: more) hn hX (h _ (fun _ => none) none 0 ⟨Nat.le_refl _, fun _ _ e => by cases e⟩ fun H' _ => ⟨rfl, rfl, rfl, fun s _ => rfl⟩) hr (Nat.le_refl _) (wf_leaf _) (.cons (.slcNil _ _) (hm _)) fun _ _ _ _ => rfl
  | some x =>
    obtain ⟨hs, cs, t, fr, hb⟩ := hW.spot x rfl
    have hfit : C = [] ∨ x.off + C.length ≤ cs.size := by
      cases hC : C with
      | nil => exact .inl rfl
      | cons z l =>
        refine .inr ?_
        have hlast : C[C.length - 1]? = some (C[C.length - 1]'(by rw [hC]; simp)) := List.getElem?_eq_getElem _
        have hw := hW.cell x rfl _ _ hlast
        have h2 : (x.add (C.length - 1)).block = x.block ∧ (x.add (C.length - 1)).off = x.off + (C.length - 1) := by
          unfold Addr.add
          by_cases hz : C.length - 1 = 0
          · rw [if_pos hz]; exact ⟨rfl, by omega⟩
          · rw [if_neg hz]; exact ⟨rfl, rfl⟩
        unfold World.cell? at hw
        rw [h2.1, hb] at hw
        simp only at hw
        split at hw
        · cases hw
        · have := (Array.getElem?_eq_some_iff.mp hw).1
          rw [h2.2] at this
          have hp : 0 < C.length := by rw [hC]; simp
          rw [← hC]; omega
    refine calls_of_sp (s := hSt x.off C cs.size) (ρ := fun ν => if ν = 0 then some ⟨x.block, 0, cs.size, cs.size, 0, false, true⟩ else none) (args := .slice (some ⟨0, x.off, none⟩) len cap :: more) hn hX
      (h _ (hHp x.off C) (some ⟨0, x.off, none⟩) cap (hModels hfit) fun H' hH => hSrc hW.long hH) (hRel hb hs (fun _ => rfl) (hW.cell x rfl)) (Nat.le_refl _) (fun ν o e => ?_) (.cons ?_ (hm _)) fun s' ν h1 _ => if_neg (by show ¬ ν = 0; have : 1 ≤ ν := h1; omega)
    · rw [hSt_get] at e
      by_cases hν : ν = 0
      · subst hν; exact Nat.zero_lt_one
      · rw [if_neg hν] at e; cases e
    · obtain ⟨xb, xo, xs⟩ := x
      simp only at hs
      subst hs
      exact VR.slc (i := ⟨xb, 0, cs.size, cs.size, 0, false, true⟩) (if_pos rfl) (.inl ⟨(Nat.zero_add _).symm, rfl⟩)
end
end Go.Ab

namespace Go.Ab
noncomputable section
/-! ### Ranging over a text, and conversions of whole numbers -/

/-- A string's iterator, of one's own. -/
structure ItAt (ro : Nat) (s : St) (H : Hp) (ν : Nat) (b : ByteArray) (p : Nat) : Prop where
  low : ro ≤ ν
  lt : ν < s.next
  get : s.heap.get ν = some (.siter b p)
  new : ∀ μ o, H μ = some o → μ ≠ ν

/-- The text's characters from a place on. -/
inductive Runes (b : ByteArray) : Nat → List Int → Prop where
  | nil {p : Nat} (h : b.data.toList.length ≤ p) : Runes b p []
  | cons {p c w : Nat} {l : List Int} (h : p < b.data.toList.length) (hd : Utf8.decode b p = (c, w)) (hr : Runes b (p + w) l) : Runes b p ((c : Int) :: l)

section
variable {X : CallE} {P : Program} {ro : Nat} {g : Gm} {s : St} {R : Value → St → Prop} {H : Hp}

theorem SV.rangeStr {t : TypeId} {x : Operand} {b : ByteArray} (hM : Models ro s H) (ht : P.underlying t = some .string) (hx : og g x = .string b)
    (hR : ∀ a s', s.next ≤ s'.next → Models ro s' H → ItAt ro s' H a b 0 → R (.pointer (some ⟨a, 0, none⟩)) s') : SV X P ro g (.range t x) s R := by
  refine SV.val (v := .pointer (some ⟨s.next, 0, none⟩)) (s' := s.push (.siter b 0)) (fun t' ht' => ?_) (Nat.le_succ _) (hR _ _ (Nat.le_succ _) ⟨Nat.le_succ_of_le hM.low, fun ν o e => ?_⟩ ⟨hM.low, Nat.lt_succ_self _, by rw [St.push_get, if_pos rfl], fun ν o e => hM.fresh_ne e⟩)
  · simp only [evalOp, rangeOf, opv_og, ht', ht, hx, newObjK_eq]; rfl
  · obtain ⟨h1, h2⟩ := hM.ok ν o e
    exact ⟨Nat.lt_succ_of_lt h1, h2.congr (by rw [St.push_get, if_neg (by omega)])⟩

theorem SV.nextStr {x : Operand} {b : ByteArray} {p c w a : Nat} (hM : Models ro s H) (hI : ItAt ro s H a b p) (hx : og g x = .pointer (some ⟨a, 0, none⟩)) (hp : p < b.data.toList.length) (hd : Utf8.decode b p = (c, w))
    (hR : ∀ s', s.next ≤ s'.next → Models ro s' H → ItAt ro s' H a b (p + w) → R (.tuple #[.bool true, .int .i64 p, .int .i32 c]) s') : SV X P ro g (.next x true) s R := by
  refine SV.val (v := .tuple #[.bool true, .int .i64 p, .int .i32 c]) (s' := s.put a (.siter b (p + w))) (fun t' ht' => ?_) (Nat.le_refl _) (hR _ (Nat.le_refl _) ⟨hM.low, fun ν o e => ?_⟩ ⟨hI.low, hI.lt, by rw [St.put_get, if_pos rfl], hI.new⟩)
  · simp only [evalOp, nextOf, opv_og, ht', hx, hI.get, setObjK_eq, hd, show Nat.ble ro a = true from Nat.ble_eq.mpr hI.low, show Nat.blt p b.data.toList.length = true from Nat.blt_eq.mpr hp, cond_true]; rfl
  · obtain ⟨h1, h2⟩ := hM.ok ν o e
    exact ⟨h1, h2.congr (by rw [St.put_get, if_neg (hI.new ν o e)])⟩

theorem SV.nextEnd {x : Operand} {b : ByteArray} {p a : Nat} (hI : ItAt ro s H a b p) (hx : og g x = .pointer (some ⟨a, 0, none⟩)) (hp : b.data.toList.length ≤ p) (hR : R (.tuple #[.bool false]) s) : SV X P ro g (.next x true) s R := by
  refine SV.pure (fun t' ht' => ?_) hR
  simp only [evalOp, nextOf, opv_og, ht', hx, hI.get, show Nat.ble ro a = true from Nat.ble_eq.mpr hI.low, show Nat.blt p b.data.toList.length = false from by
    cases e : Nat.blt p b.data.toList.length with
    | false => rfl
    | true => exact absurd (Nat.blt_eq.mp e) (by omega), cond_true, cond_false]

theorem SV.convI {src dst : TypeId} {x : Operand} {d : TypeDesc} {k k' : IntKind} {n : Int} (h1 : P.underlying src = some d) (h2 : P.underlying dst = some (.int k)) (hx : og g x = .int k' n) (hR : R (.int k (wrapK k n)) s) : SV X P ro g (.convert src dst x) s R := by
  refine SV.pure (fun t' ht' => ?_) hR
  simp only [evalOp, convOf, opv_og, ht', h1, h2, hx]
theorem SV.conv64 {src dst : TypeId} {x : Operand} {d : TypeDesc} {k' : IntKind} {n : Int} (h1 : P.underlying src = some d) (h2 : P.underlying dst = some (.int .i64)) (hx : og g x = .int k' n) (hn : -9223372036854775808 ≤ n ∧ n < 9223372036854775808) (hR : R (.int .i64 n) s) :
    SV X P ro g (.convert src dst x) s R := SV.convI h1 h2 hx (by rw [wrap64 hn]; exact hR)
end
end
end Go.Ab

namespace Go.Ab
noncomputable section
/-! ### Shifts, conversions to unsigned; elements of a slice of one's own -/
theorem KeptBut.refl' {H : Hp} {v : Value} : KeptBut H H v := fun _ _ h _ => h
theorem KeptBut.trans' {H1 H2 H3 : Hp} {v : Value} (h1 : KeptBut H1 H2 v) (h2 : KeptBut H2 H3 v) : KeptBut H1 H3 v := fun μ o h hb => h2 μ o (h1 μ o h hb) hb
theorem wrapU {n : Int} (h : 0 ≤ n ∧ n < 18446744073709551616) : wrapK .u64 n = n := by
  rw [wrapK_eq]
  have hm : (2 : Int) ^ IntKind.u64.bits = 18446744073709551616 := rfl
  simp only [IntKind.wrap, hm, IntKind.signed, Bool.false_and]
  rw [if_neg (by decide)]
  omega
section
variable {X : CallE} {P : Program} {ro : Nat} {g : Gm} {s : St} {R : Value → St → Prop} {H : Hp} {x y : Operand} {t yt : TypeId}
theorem SV.convU {src dst : TypeId} {d : TypeDesc} {k' : IntKind} {n : Int} (h1 : P.underlying src = some d) (h2 : P.underlying dst = some (.int .u64)) (hx : og g x = .int k' n) (hn : 0 ≤ n ∧ n < 18446744073709551616) (hR : R (.int .u64 n) s) :
    SV X P ro g (.convert src dst x) s R := SV.convI h1 h2 hx (by rw [wrapU hn]; exact hR)
theorem SV.shr {k k2 : IntKind} {n : Int} {m : Nat} (hx : og g x = .int k n) (hy : og g y = .int k2 (Int.ofNat m)) (hm : m ≤ k.bits) (hR : R (.int k (n / (2 ^ m : Nat))) s) : SV X P ro g (.binOp .shr t x y yt) s R :=
  SV.bin hx hy (by
    show shiftBin .shr k n (Int.ofNat m) = _
    simp only [shiftBin, Nat.min_eq_left hm]
    rw [Int.fdiv_eq_ediv_of_nonneg _ (by exact Int.natCast_nonneg _)]; rfl) hR
theorem SV.shr1 {k k2 : IntKind} {n : Int} (hx : og g x = .int k n) (hy : og g y = .int k2 (Int.ofNat 1)) (hR : R (.int k (n / 2)) s) : SV X P ro g (.binOp .shr t x y yt) s R := SV.shr hx hy (by cases k <;> decide) hR
theorem SV.shr6 {k k2 : IntKind} {n : Int} (hx : og g x = .int k n) (hy : og g y = .int k2 (Int.ofNat 6)) (hR : R (.int k (n / 64)) s) : SV X P ro g (.binOp .shr t x y yt) s R := SV.shr hx hy (by cases k <;> decide) hR
theorem SV.mul64 {m n : Int} (hx : og g x = .int .i64 m) (hy : og g y = .int .i64 n) (hb : -9223372036854775808 ≤ m * n ∧ m * n < 9223372036854775808) (hR : R (.int .i64 (m * n)) s) : SV X P ro g (.binOp .mul t x y yt) s R :=
  SV.mul hx hy (by rw [wrap64 hb]; exact hR)
theorem SV.quo64 {m n : Int} (hx : og g x = .int .i64 m) (hy : og g y = .int .i64 n) (h : n ≠ 0) (hb : -9223372036854775808 ≤ m.tdiv n ∧ m.tdiv n < 9223372036854775808) (hR : R (.int .i64 (m.tdiv n)) s) : SV X P ro g (.binOp .quo t x y yt) s R :=
  SV.bin hx hy (by rw [bin_int (by decide) (by decide)]; simp only [intBin, eqI_eq, show (n == 0) = false from by simpa using h, cond_false, wrap64 hb]) hR
end
section
variable {α : Type} {enc : α → List Value} {sz : Nat}
theorem flat_cut (he : ∀ a, (enc a).length = sz) {L : List α} {j : Nat} {a : α} (hj : L[j]? = some a) : ∃ A B, L = A ++ a :: B ∧ A.length = j ∧ (A.flatMap enc).length = j * sz := by
  obtain ⟨hlt, rfl⟩ := List.getElem?_eq_some_iff.mp hj
  refine ⟨L.take j, L.drop (j + 1), by rw [List.getElem_cons_drop, List.take_append_drop], by rw [List.length_take]; omega, ?_⟩
  rw [flat_length enc sz he, List.length_take, Nat.min_eq_left (by omega)]
theorem flat_row {ws : List Value} {n : Nat} {L : List α} (he : ∀ a, (enc a).length = sz) (hw : ws.take (n * sz) = L.flatMap enc) (hL : L.length = n) {j : Nat} {a : α} (hj : L[j]? = some a) :
    ∃ A B R, L = A ++ a :: B ∧ A.length = j ∧ ws = A.flatMap enc ++ (enc a ++ (B.flatMap enc ++ R)) ∧ (A.flatMap enc).length = j * sz := by
  obtain ⟨A, B, rfl, hA, hA2⟩ := flat_cut he hj
  refine ⟨A, B, ws.drop (n * sz), rfl, hA, ?_, hA2⟩
  rw [List.flatMap_append, List.flatMap_cons] at hw
  calc ws = ws.take (n * sz) ++ ws.drop (n * sz) := (List.take_append_drop _ _).symm
    _ = _ := by rw [hw]; simp only [List.append_assoc]
theorem SlO.get {H : Hp} {ν n c : Nat} {L : List α} (h : SlO H (.slice (some ⟨ν, 0, none⟩) n c) sz n (L.flatMap enc)) (he : ∀ a, (enc a).length = sz) (hL : L.length = n) {j : Nat} {a : α} (hj : L[j]? = some a) :
    ∃ ws, H ν = some (.row sz ws) ∧ ws.length = c * sz ∧ n ≤ c ∧ j * sz + sz ≤ ws.length ∧ (∀ i v, (enc a)[i]? = some v → ws[j * sz + i]? = some v) ∧ ∀ b, (splice ws (j * sz) (enc b)).take (n * sz) = (L.set j b).flatMap enc := by
  rcases h with ⟨h, _⟩ | ⟨ν', c', ws, h0, h1, h2, h3, h4⟩
  · cases h
  · cases h0
    obtain ⟨A, B, R, rfl, hA, hw, hA2⟩ := flat_row he h4.symm hL hj
    refine ⟨ws, h1, h2, h3, ?_, fun i v hv => ?_, fun b => ?_⟩
    · rw [hw]; simp only [List.length_append, hA2, he]; omega
    · rw [hw, List.getElem?_append_right (by omega), hA2, Nat.add_sub_cancel_left, List.getElem?_append_left (List.getElem?_eq_some_iff.mp hv).1]; exact hv
    · have e : splice ws (j * sz) (enc b) = A.flatMap enc ++ (enc b ++ (B.flatMap enc ++ R)) := by
        unfold splice
        rw [he, hw, List.take_left' hA2, show j * sz + sz = (A.flatMap enc ++ enc a).length by rw [List.length_append, hA2, he], ← List.append_assoc (A.flatMap enc) (enc a), List.drop_left, List.append_assoc]
      have hs : (A ++ a :: B).set j b = A ++ b :: B := by rw [List.set_append_right _ _ (by omega), hA, Nat.sub_self]; rfl
      rw [e, hs, List.flatMap_append, List.flatMap_cons]
      have hl : (A.flatMap enc ++ (enc b ++ B.flatMap enc)).length = n * sz := by
        rw [← hL]
        simp only [List.length_append, flat_length enc sz he, he, List.length_cons, Nat.add_mul]; omega
      rw [show A.flatMap enc ++ (enc b ++ (B.flatMap enc ++ R)) = (A.flatMap enc ++ (enc b ++ B.flatMap enc)) ++ R by simp only [List.append_assoc], List.take_left' hl]
end
section
variable {X : CallE} {P : Program} {ro : Nat} {g : Gm} {s : St} {R : Value → St → Prop} {H : Hp} {x y : Operand} {t yt : TypeId} {α : Type} {enc : α → List Value} {sz : Nat} {ν o n c j : Nat} {L : List α} {a : α}
/-- An element of several cells is read. -/
theorem SV.loadSl [TAgg P t sz] (hM : Models ro s H) (hx : og g x = .pointer (some ⟨ν, o, none⟩)) (hv : SlO H (.slice (some ⟨ν, 0, none⟩) n c) sz n (L.flatMap enc)) (he : ∀ a, (enc a).length = sz) (hL : L.length = n) (hj : L[j]? = some a) (ho : o = j * sz)
    (hR : R (.agg (enc a).toArray) s) : SV X P ro g (.load t x) s R := by
  obtain ⟨ws, h1, _, _, _, h2, _⟩ := hv.get he hL hj
  subst ho
  exact SV.loadMA hM hx h1 (he a) h2 hR
/-- An element of one cell is read. -/
theorem SV.loadSc {e1 : α → Value} [TCell P t] (hM : Models ro s H) (hx : og g x = .pointer (some ⟨ν, o, none⟩)) (hv : SlO H (.slice (some ⟨ν, 0, none⟩) n c) 1 n (L.flatMap fun a => [e1 a])) (hL : L.length = n) (hj : L[j]? = some a) (ho : o = j * 1)
    (hR : R (e1 a) s) : SV X P ro g (.load t x) s R := by
  obtain ⟨ws, h1, _, _, _, h2, _⟩ := hv.get (fun _ => rfl) hL hj
  subst ho
  exact SV.loadM hM hx h1 (h2 0 _ rfl) hR
/-- An element is written. -/
theorem SV.storeSl {p : Operand} {b : α} (hsz : szOf P t = some sz) (hM : Models ro s H) (hp : og g p = .pointer (some ⟨ν, o, none⟩)) (hv : SlO H (.slice (some ⟨ν, 0, none⟩) n c) sz n (L.flatMap enc)) (he : ∀ a, (enc a).length = sz) (hL : L.length = n)
    (hj : L[j]? = some a) (ho : o = j * sz) (hx : cellsV (og g x) = some (enc b)) (h1 : (enc b).all oneC = true)
    (hR : ∀ s' H', s.next ≤ s'.next → Models ro s' H' → SlO H' (.slice (some ⟨ν, 0, none⟩) n c) sz n ((L.set j b).flatMap enc) → KeptBut H H' (.slice (some ⟨ν, 0, none⟩) n c) → R und s') : SV X P ro g (.store t p x) s R := by
  obtain ⟨ws, h2, h3, h4, h5, _, h6⟩ := hv.get he hL hj
  subst ho
  have hro : j * sz + (enc b).length ≤ ws.length := by rw [he]; exact h5
  obtain ⟨s', e1, e2⟩ := stCells_row hM h2 hro h1
  refine SV.store hsz hp hx (he b) e1 (hR s' _ (by rw [stCells_next e1]; exact Nat.le_refl _) e2 (.inr ⟨ν, c, _, rfl, Hp.up_same, by rw [splice_length hro]; exact h3, h4, (h6 b).symm⟩) fun μ o h hne => Hp.up_ne (fun e => hne (by rw [e]; rfl)) h)
end
end
end Go.Ab

namespace Go.Ab
noncomputable section
/-! ### Cells, wherever they lie; parts of slices; clear -/
/-- What a cell holds: in a row of one's own or in one that is only read. -/
def cellH (H : Hp) (ν k : Nat) : Option Value := match H ν with | some (.row _ vs) => vs[k]? | some (.rd c) => c k | _ => none
/-- All that was is still. -/
def Ext (H H' : Hp) : Prop := ∀ ν o, H ν = some o → H' ν = some o
theorem Ext.refl {H : Hp} : Ext H H := fun _ _ h => h
theorem Ext.trans {H1 H2 H3 : Hp} (h1 : Ext H1 H2) (h2 : Ext H2 H3) : Ext H1 H3 := fun ν o h => h2 ν o (h1 ν o h)
theorem Ext.up {H H' : Hp} {a : Nat} {o : Obj} (h : Ext H H') (hf : ∀ ν o, H ν = some o → ν ≠ a) : Ext H (H'.up a o) := fun ν o' e => Hp.up_ne (hf ν o' e) (h ν o' e)
theorem Ext.kept {H H1 H2 : Hp} {v : Value} (h : Ext H H1) (hk : KeptBut H1 H2 v) (hb : ∀ μ, baseV v = some μ → H μ = none) : Ext H H2 := fun ν o e => hk ν o (h ν o e) fun hv => by rw [hb ν hv] at e; cases e
theorem SlO.upF {H : Hp} {v : Value} {sz n a : Nat} {vs : List Value} {o : Obj} (h : SlO H v sz n vs) (hf : ∀ ν o, H ν = some o → ν ≠ a) : SlO (H.up a o) v sz n vs := h.up (fun e => by obtain ⟨o', ho⟩ := h.base_some e; exact hf _ _ ho rfl)
theorem NewOr.none {H H1 : Hp} {v v' : Value} (h : NewOr H1 v v') (he : Ext H H1) (hb : ∀ μ, baseV v = some μ → H μ = none) : ∀ μ, baseV v' = some μ → H μ = none := fun μ e => by
  rcases h μ e with h | h
  · exact hb μ h
  · cases e2 : H μ with
    | none => rfl
    | some o => rw [he μ o e2] at h; cases h
theorem cellH_ext {H H' : Hp} {ν k : Nat} {v : Value} (hk : Ext H H') (h : cellH H ν k = some v) : cellH H' ν k = some v := by
  unfold cellH at h ⊢
  cases e : H ν with
  | none => rw [e] at h; cases h
  | some o => rw [hk ν o e]; rw [e] at h; exact h
section
variable {ro : Nat} {s : St} {H : Hp}
theorem cellH_ld {ν k : Nat} {v : Value} (hM : Models ro s H) (h : cellH H ν k = some v) : ldCell s ν k = some v := by
  unfold cellH at h
  cases e : H ν with
  | none => rw [e] at h; cases h
  | some o =>
    rw [e] at h
    cases o with
    | row es vs => exact ldCell_row hM e h
    | rd c => exact (hM.ok _ _ e).2 k v h
    | map l => cases h
theorem ldCells_of {ν o n : Nat} {l : List Value} (h : ∀ i v, l[i]? = some v → ldCell s ν (o + i) = some v) (hl : l.length = n) : ldCells s ν o n = some l := by
  cases n with
  | zero => obtain rfl := List.length_eq_zero_iff.mp hl; rfl
  | succ n =>
    obtain ⟨a, l', rfl⟩ : ∃ a l', l = a :: l' := by
      cases l with
      | nil => cases hl
      | cons a l' => exact ⟨a, l', rfl⟩
    have h0 := h 0 a rfl
    unfold ldCell at h0
    cases e : liveBlk s ν with
    | none => rw [e] at h0; cases h0
    | some b =>
      simp only [ldCells, e]
      refine cellsFrom_of _ _ _ hl fun i v hv => ?_
      have := h i v hv
      unfold ldCell at this
      rw [e] at this
      exact this
end
section
variable {X : CallE} {P : Program} {ro : Nat} {g : Gm} {s : St} {R : Value → St → Prop} {H : Hp} {x y : Operand} {t yt : TypeId}
theorem SV.loadC [TCell P t] {ν o : Nat} {v : Value} (hM : Models ro s H) (hx : og g x = .pointer (some ⟨ν, o, none⟩)) (hv : cellH H ν o = some v) (hR : R v s) : SV X P ro g (.load t x) s R := SV.load hx (cellH_ld hM hv) hR
theorem SV.loadCA {n : Nat} [TAgg P t n] {ν o : Nat} {l : List Value} (hM : Models ro s H) (hx : og g x = .pointer (some ⟨ν, o, none⟩)) (hl : l.length = n) (hv : ∀ i v, l[i]? = some v → cellH H ν (o + i) = some v) (hR : R (.agg l.toArray) s) : SV X P ro g (.load t x) s R :=
  SV.loadA hx (ldCells_of (fun i v e => cellH_ld hM (hv i v e)) hl) hR
theorem SV.sliceFrom {lo : Operand} {e : TypeId} {sz : Nat} [hT : TSlice P t e sz] {ν n c : Nat} {ws : List Value} {i : Int} (hM : Models ro s H) (hx : og g x = .slice (some ⟨ν, 0, none⟩) n c) (hH : H ν = some (.row sz ws)) (hl : og g lo = .int .i64 i)
    (hij : 0 ≤ i ∧ i < n ∧ n ≤ c) {m : Nat} (hm : n - i.toNat = m) (hR : R (.slice (some ⟨ν, i.toNat * sz, none⟩) m (c - i.toNat)) s) : SV X P ro g (.slice t x (some lo) none none) s R := by
  subst hm
  obtain ⟨a, rfl⟩ : ∃ k : Nat, i = (k : Int) := ⟨i.toNat, by omega⟩
  obtain ⟨hlt, hro, b, hbg, hbO⟩ := hM.ok ν _ hH
  have hlive : liveBlk s ν = some b := by simp only [liveBlk, hbg, hbO.1, cond_false]
  refine SV.pure (fun t' ht => ?_) hR
  have hca : Nat.beq c a = false := by cases e : Nat.beq c a with | false => rfl | true => have := Nat.eq_of_beq_eq_true e; omega
  have hb : bounds n c (some (.int .i64 a)) none none = some (a, n, c) := by
    unfold bounds
    simp only [boundOr, bound1, show Nat.ble n c = true from Nat.ble_eq.mpr (by omega), show Nat.ble a n = true from Nat.ble_eq.mpr (by omega), show Nat.ble c c = true from Nat.ble_eq.mpr (Nat.le_refl _), cond_true]
  simp only [Int.toNat_natCast, evalOp, opv_og, ht, hx, Option.map_none, Option.map_some, hl, sliceOf, Option.isSome_none, cond_false, hT.und, hT.sz, hb, hlive, hca, cond_false, addA_spot, Nat.zero_add]
  cases hex : exactCap b 0 c with
  | true => simp only [cond_true]
  | false =>
    have hopn : b.opn = true := by
      cases ho : b.opn with
      | true => rfl
      | false => simp [exactCap, ho] at hex
    simp only [cond_false, show Nat.beq b.es sz = true from by rw [hbO.2.2.2.1 hopn]; exact Nat.beq_refl _, cond_true]
/-- A slice's beginning, over a row: it is read. -/
theorem St1.loadA {P : Program} {ro : Nat} {g : Gm} {H : Hp} {t : TypeId} {x : Operand} {n : Nat} [h : TAgg P t n] {ν o es : Nat} {vs l : List Value} (hx : og g x = .pointer (some ⟨ν, o, none⟩)) (hH : H ν = some (.row es vs)) (hl : l.length = n) (hv : ∀ i v, l[i]? = some v → vs[o + i]? = some v) (hs : sameV 4 (.agg l.toArray) (.agg l.toArray) = true) : St1 P ro H g (.load t x) (.agg l.toArray) :=
  ⟨fun s1 h1 t' ht => by simp only [evalOp, opv_og, ht, hx, ldVar, h.ag, h.sz, ldCells_row h1 hH hl hv], hs⟩

theorem wrap8 {n : Int} (h : 0 ≤ n ∧ n < 256) : wrapK .u8 n = n := by
  rw [wrapK_eq]
  have hm : (2 : Int) ^ IntKind.u8.bits = 256 := rfl
  simp only [IntKind.wrap, hm, IntKind.signed, Bool.false_and]
  rw [if_neg (by decide)]
  omega
theorem SV.conv8 {src dst : TypeId} {d : TypeDesc} {k' : IntKind} {n : Int} (h1 : P.underlying src = some d) (h2 : P.underlying dst = some (.int .u8)) (hx : og g x = .int k' n) (hn : 0 ≤ n ∧ n < 256) (hR : R (.int .u8 n) s) :
    SV X P ro g (.convert src dst x) s R := SV.convI h1 h2 hx (by rw [wrap8 hn]; exact hR)
theorem SV.quoP {m n : Int} (hx : og g x = .int .i64 m) (hy : og g y = .int .i64 n) (hm : 0 ≤ m ∧ m < 9223372036854775808) (hn : 0 < n) (hR : R (.int .i64 (m / n)) s) : SV X P ro g (.binOp .quo t x y yt) s R := by
  have e : m.tdiv n = m / n := Int.tdiv_eq_ediv_of_nonneg hm.1
  have h1 : 0 ≤ m / n := Int.ediv_nonneg hm.1 (by omega)
  have h2 : m / n ≤ m := Int.ediv_le_self _ hm.1
  exact SV.quo64 hx hy (by omega) (by rw [e]; omega) (by rw [e]; exact hR)
theorem SV.remP {m n : Int} (hx : og g x = .int .i64 m) (hy : og g y = .int .i64 n) (hm : 0 ≤ m) (hn : 0 < n) (hR : R (.int .i64 (m % n)) s) : SV X P ro g (.binOp .rem t x y yt) s R :=
  SV.rem hx hy (by omega) (by rw [Int.tmod_eq_emod_of_nonneg hm]; exact hR)
theorem repL_all {z : List Value} {p : Value → Bool} (h : z.all p = true) : ∀ n, (repeatL z n).all p = true
  | 0 => rfl
  | n + 1 => by simp only [repeatL, List.all_append, h, repL_all h n, Bool.and_self]
theorem SV.clearM {ts : Array TypeId} {e : TypeId} {sz : Nat} {z : List Value} [hT : TSlice P t e sz] [hZ : TZero P e z] {ν off n c es : Nat} {ws : List Value} (hts : ts.toList = [t]) (hM : Models ro s H) (hx : og g x = .slice (some ⟨ν, off, none⟩) n c) (hH : H ν = some (.row es ws))
    (hn : 0 < n) (hz : z.length = sz) (hr : off + n * sz ≤ ws.length) (h1 : z.all oneC = true) (hR : ∀ s', s.next ≤ s'.next → Models ro s' (H.up ν (.row es (splice ws off (repeatL z n)))) → R (.tuple #[]) s') : SV X P ro g (.call ⟨.builtin .clear, #[x], ts⟩) s R := by
  obtain ⟨m, rfl⟩ : ∃ m, n = m + 1 := ⟨n - 1, by omega⟩
  obtain ⟨s', e1, e2⟩ := stCells_row hM hH (l := repeatL z (m + 1)) (o := off) (by rw [repL_length, hz]; exact hr) (repL_all h1 _)
  refine SV.val (v := .tuple #[]) (s' := s') (fun t' ht => ?_) (by rw [stCells_next e1]; exact Nat.le_refl _) (hR s' (by rw [stCells_next e1]; exact Nat.le_refl _) e2)
  simp only [evalOp, builtinOf, hts, List.map_cons, List.map_nil, opv_og, ht, hx, hT.und, hZ.z, e1]
end
end
end Go.Ab

namespace Go.Ab
noncomputable section
/-! ### The start: rows of any cells handed in -/
/-- A handed row: its address, its block's size, its cells (as the logic sees them). -/
structure HRowV where
  (x : Addr) (n : Nat) (V : List Value)
def vObj (off : Nat) (V : List Value) (n : Nat) : AObj := .cells { cells := T.sets V off .leaf, n, z := [], elem := 0, opn := false, es := 0, str := true, dead := false }
theorem vCell {off : Nat} {V : List Value} {n i : Nat} {v : Value} (h : cellAt { cells := T.sets V off .leaf, n, z := [], elem := 0, opn := false, es := 0, str := true, dead := false } i = some v) : off ≤ i ∧ V[i - off]? = some v := by
  simp only [cellAt, T.get_sets, T.get_leaf] at h
  cases hb : Nat.blt i n with
  | false => rw [hb] at h; cases h
  | true =>
    rw [hb] at h
    simp only [cond_true] at h
    by_cases hc : off ≤ i ∧ i < off + V.length
    · rw [if_pos hc] at h
      refine ⟨hc.1, ?_⟩
      rw [List.getElem?_eq_getElem (by omega)] at h ⊢
      exact h
    · rw [if_neg hc] at h
      cases h
theorem vCellB {off : Nat} {V : List Value} {n i : Nat} {v : Value} (hn : off + V.length ≤ n) (h0 : off ≤ i) (h : V[i - off]? = some v) :
    cellAt { cells := T.sets V off .leaf, n, z := [], elem := 0, opn := false, es := 0, str := true, dead := false } i = some v := by
  have hl := (List.getElem?_eq_some_iff.mp h).1
  simp only [cellAt, T.get_sets]
  rw [show Nat.blt i n = true from Nat.blt_eq.mpr (by omega), cond_true, if_pos ⟨h0, by omega⟩, h]
def vTr (D : Nat → Option HRowV) : Nat → T AObj
  | 0 => .leaf
  | k + 1 => match D k with | some d => T.set (vTr D k) k (vObj d.x.off d.V d.n) | none => vTr D k
theorem vTr_get (D : Nat → Option HRowV) : ∀ (k ν : Nat), (vTr D k).get ν = if ν < k then (D ν).map (fun d => vObj d.x.off d.V d.n) else none
  | 0, ν => by simp [vTr, T.get_leaf]
  | k + 1, ν => by
    have ih := vTr_get D k ν
    simp only [vTr]
    cases hD : D k with
    | none =>
      simp only
      rw [ih]
      by_cases h : ν < k
      · rw [if_pos h, if_pos (by omega)]
      · rw [if_neg h]
        by_cases e : ν = k
        · rw [if_pos (by omega), e, hD]; rfl
        · rw [if_neg (by omega)]
    | some d =>
      simp only
      rw [T.get_set, ih]
      by_cases e : ν = k
      · rw [if_pos e, if_pos (by omega), e, hD]; rfl
      · rw [if_neg e]
        by_cases h : ν < k
        · rw [if_pos h, if_pos (by omega)]
        · rw [if_neg h, if_neg (by omega)]
def vSt (D : Nat → Option HRowV) (k : Nat) : St := ⟨vTr D k, k⟩
def vHp (D : Nat → Option HRowV) (k : Nat) : Hp := fun ν => if ν < k then (D ν).map (fun d => .rd fun i => if d.x.off ≤ i then d.V[i - d.x.off]? else none) else none
def vRho (D : Nat → Option HRowV) (k : Nat) : Ren := fun ν => if ν < k then (D ν).map (fun d => ⟨d.x.block, 0, d.n, d.n, 0, false, true⟩) else none
structure HRowV.Ok (W : World) (ρ : Ren) (d : HRowV) : Prop where
  spot : d.x.spot = none
  blk : ∃ cs t fr, W.heap[d.x.block]? = some (.cells cs t fr) ∧ cs.size = d.n
  fit : d.V = [] ∨ d.x.off + d.V.length ≤ d.n
  cell : ∀ (i : Nat) v, d.V[i]? = some v → ∃ v', W.cell? (d.x.add i) = some v' ∧ VR ρ v v'
theorem vModels {D : Nat → Option HRowV} {k : Nat} (hD : ∀ ν d, ν < k → D ν = some d → d.V = [] ∨ d.x.off + d.V.length ≤ d.n) : Models k (vSt D k) (vHp D k) where
  low := Nat.le_refl _
  ok := fun ν o e => by
    unfold vHp at e
    by_cases hν : ν < k
    · rw [if_pos hν] at e
      cases hd : D ν with
      | none => rw [hd] at e; cases e
      | some d =>
        rw [hd] at e
        cases e
        refine ⟨hν, fun i v h => ?_⟩
        by_cases h0 : d.x.off ≤ i
        · simp only [if_pos h0] at h
          have hg : (vSt D k).heap.get ν = some (vObj d.x.off d.V d.n) := by unfold vSt; rw [vTr_get, if_pos hν, hd]; rfl
          simp only [ldCell, liveBlk, hg, vObj, cond_false]
          rcases hD ν d hν hd with e | hn
          · rw [e] at h; cases h
          · exact vCellB hn h0 h
        · simp only [if_neg h0] at h; cases h
    · rw [if_neg hν] at e; cases e
theorem vCellH {D : Nat → Option HRowV} {k ν : Nat} {d : HRowV} (hν : ν < k) (hd : D ν = some d) {i : Nat} {v : Value} (hv : d.V[i]? = some v) : cellH (vHp D k) ν (d.x.off + i) = some v := by
  unfold cellH vHp
  rw [if_pos hν, hd]
  simp only [Option.map_some]
  rw [if_pos (Nat.le_add_right _ _), Nat.add_sub_cancel_left]
  exact hv
theorem vRel {W : World} {D : Nat → Option HRowV} {k : Nat} (hD : ∀ ν d, ν < k → D ν = some d → d.Ok W (vRho D k)) : Rel W.heap.size k (vRho D k) (vSt D k).heap.get W where
  base := Nat.le_refl _
  inb := fun ν i e => by
    unfold vRho at e
    by_cases hν : ν < k
    · rw [if_pos hν] at e
      cases hd : D ν with
      | none => rw [hd] at e; cases e
      | some d =>
        rw [hd] at e; cases e
        obtain ⟨cs, t, fr, hb, _⟩ := (hD ν d hν hd).blk
        exact (Array.getElem?_eq_some_iff.mp hb).1
    · rw [if_neg hν] at e; cases e
  own := fun ν i e h => by unfold vRho at e; rw [if_neg (by omega)] at e; cases e
  rdo := fun ν i e h => by
    unfold vRho at e
    rw [if_pos h] at e
    cases hd : D ν with
    | none => rw [hd] at e; cases e
    | some d =>
      rw [hd] at e; cases e
      obtain ⟨cs, t, fr, hb, _⟩ := (hD ν d h hd).blk
      exact (Array.getElem?_eq_some_iff.mp hb).1
  inj := fun ν μ i j e1 e2 r1 r2 _ _ _ => by unfold vRho at e1; rw [if_neg (by omega)] at e1; cases e1
  obj := fun ν i o e e' => by
    have e0 := e
    unfold vRho at e
    unfold vSt at e'
    rw [vTr_get] at e'
    by_cases hν : ν < k
    · rw [if_pos hν] at e e'
      cases hd : D ν with
      | none => rw [hd] at e; cases e
      | some d =>
        rw [hd] at e e'; cases e; cases e'
        obtain ⟨hs, ⟨cs, t, fr, hb, hsz⟩, _, hc⟩ := hD ν d hν hd
        refine ⟨rfl, rfl, rfl, fun _ => ⟨cs, t, fr, hb, hsz, by simp, (fun h => by cases h), (fun h => by cases h), fun _ => ⟨rfl, rfl⟩, fun j v h => ?_⟩⟩
        obtain ⟨h1, h2⟩ := vCell h
        obtain ⟨v', hw, hvr⟩ := hc _ _ h2
        refine ⟨v', ?_, hvr⟩
        simp only [Nat.zero_add]
        obtain ⟨⟨xb, xo, xs⟩, n, V⟩ := d
        simp only at hs hb h1 hw
        subst hs
        have ha : (⟨xb, xo, none⟩ : Addr).add (j - xo) = ⟨xb, j, none⟩ := by
          unfold Addr.add
          by_cases hz : j - xo = 0
          · rw [if_pos hz]; congr 1; omega
          · rw [if_neg hz]; congr 1; simp only; omega
        rw [ha] at hw
        simpa [World.cell?, hb] using hw
    · rw [if_neg hν] at e; cases e
theorem vVR {D : Nat → Option HRowV} {k ν : Nat} {d : HRowV} (hν : ν < k) (hd : D ν = some d) (hs : d.x.spot = none) (len cap : Nat) : VR (vRho D k) (.slice (some ⟨ν, d.x.off, none⟩) len cap) (.slice (some d.x) len cap) := by
  obtain ⟨⟨xb, xo, xs⟩, n, V⟩ := d
  simp only at hs
  subst hs
  exact VR.slc (i := ⟨xb, 0, n, n, 0, false, true⟩) (by unfold vRho; rw [if_pos hν, hd]; rfl) (.inl ⟨(Nat.zero_add _).symm, rfl⟩)
/-- From the logic to the model, for a function that is handed rows. -/
theorem calls_of_rowsV {P : Program} {f : FuncId} {W : World} {D : Nat → Option HRowV} {k : Nat} {args : List Value} {args' : Array Value} (hn : namesOk P = true) (hD : ∀ ν d, ν < k → D ν = some d → d.Ok W (vRho D k)) (ha : VRs (vRho D k) args args'.toList)
    (X : CallE) (hX : CallS P W.heap.size k X) (h : Sp X P k f args (vSt D k) fun v _ => v = .bool true) :
    Calls P f args' W fun e W' => e = .returned (.bool true) ∧ Go.RowKit.Below W.heap.size W W' :=
  calls_of_sp hn hX h (vRel hD) (Nat.le_refl _) (fun ν o e => by
    unfold vSt at e ⊢
    rw [vTr_get] at e
    by_cases hν : ν < k
    · exact hν
    · rw [if_neg hν] at e; cases e) ha fun s' ν h1 _ => if_neg (by have : k ≤ ν := h1; omega)
end
end Go.Ab

namespace Go.Ab
noncomputable section
section
variable {P : Program} {ro : Nat} {g : Gm} {s : St} {H H2 : Hp}
/-- A body's end: a result in a cell of several parts, one in a temporary. -/
theorem fin_cellT {fn : Func} {n a u ν es k : Nat} {t : TypeId} {Post : Value → Hp → Prop} {e : Ex} {vs : List Value} {w : Value} [h : TAgg P t k] (hr : fn.results = #[.cell a t, .tmp u]) (he : (match e with | .normal => True | .ret => True | _ => False))
    (hv : g a = some (.pointer (some ⟨ν, 0, none⟩))) (hH : H ν = some (.row es vs)) (hk : vs.length = k) (hw : g u = some w) (hn : n ≤ s.next) (hM : Models ro s H) (hM2 : Models ro s H2) (hP : Post (.tuple #[.agg vs.toArray, w]) H2) : FinM P ro n fn Post e g [] s :=
  ⟨he, rfl, _, fun t' ht => by simp only [retOf, hr, resultsOf, ht, hv, hw, ldVar, h.ag, h.sz, ldCells_row hM hH hk (fun i v e => by rw [Nat.zero_add]; exact e)], hn, H2, hM2, hP⟩
end
section
variable {X : CallE} {P : Program} {ro : Nat} {H : Hp} {nt i : Nat} {all : List Oper} {rest : List (Nat × Oper)} {g : Gm} {ds : List Deferred} {s : St} {Q : Gm → List Deferred → St → Prop}
  {op : Op} {ty : TypeId} {pos : String} {after : Array Edge}
/-- An operation without a result in a region that is drawn. -/
theorem WE.act0 (hc : (match clsOf P op with | .read => false | _ => true) = true) (hM : Models ro s H) (h : SV X P ro g op s (fun _ s' => Models ro s' H ∧ WE X P ro H nt all rest g ds s' Q)) :
    WE X P ro H nt all ((i, ⟨none, op, ty, pos, after, none⟩) :: rest) g ds s Q := fun t ht => by
  obtain ⟨v, s', ⟨K, hK⟩, hM', hR⟩ := h
  obtain ⟨a1, s1, ⟨K2, hK2⟩, hQ⟩ := hR t ht
  refine ⟨a1, s1, ⟨max K K2, fun j hj => ?_⟩, hQ⟩
  obtain ⟨log, h1, h2⟩ := hK2 j (by omega)
  refine ⟨⟨i, ⟨none, op, ty, pos, after, none⟩, t, s, s', v, true⟩ :: log, ?_, all_cons_log ⟨hM, hM', fun hr => ?_⟩ h2⟩
  · simp only [evalDraw, wantedA, hK j (by omega) t ht, putK, h1]
  · unfold isRead at hr
    simp only at hr
    cases e : clsOf P op <;> rw [e] at hc hr <;> first | (cases hc; done) | cases hr
end
section
variable {X : CallE} {P : Program} {ro : Nat} {g : Gm} {s : St} {R : Value → St → Prop} {H : Hp} {x y : Operand} {t yt : TypeId}
/-- The beginning of a part of a row. -/
theorem SV.sliceUptoG {hi : Operand} {e : TypeId} {sz : Nat} [hT : TSlice P t e sz] {ν o n c : Nat} {ws : List Value} {i : Int} (hM : Models ro s H) (hx : og g x = .slice (some ⟨ν, o, none⟩) n c) (hH : H ν = some (.row sz ws)) (hl : og g hi = .int .i64 i)
    (hij : 0 ≤ i ∧ i ≤ c) (hR : R (.slice (some ⟨ν, o, none⟩) i.toNat c) s) : SV X P ro g (.slice t x none (some hi) none) s R := by
  obtain ⟨k, rfl⟩ : ∃ k : Nat, i = (k : Int) := ⟨i.toNat, by omega⟩
  simp only [Int.toNat_natCast] at hR
  obtain ⟨hlt, hro, b, hbg, hbO⟩ := hM.ok ν _ hH
  have hlive : liveBlk s ν = some b := by simp only [liveBlk, hbg, hbO.1, cond_false]
  refine SV.pure (v := .slice (some ⟨ν, o, none⟩) k c) (fun t' ht => ?_) hR
  simp only [evalOp, opv_og, ht, hx, Option.map_none, Option.map_some, hl, sliceOf, Option.isSome_none, cond_false, hT.und, hT.sz, bounds_to (len := n) rfl (show k ≤ c by omega), hlive]
  have e : (bif Nat.beq c 0 then (⟨ν, o, none⟩ : Addr) else addA ⟨ν, o, none⟩ (0 * sz)) = ⟨ν, o, none⟩ := by rw [Nat.zero_mul]; cases Nat.beq c 0 <;> rfl
  have e2 : addA (⟨ν, o, none⟩ : Addr) (0 * sz) = ⟨ν, o, none⟩ := by rw [Nat.zero_mul]; rfl
  cases hex : exactCap b o c with
  | true => simp only [cond_true, e, Nat.sub_zero]
  | false =>
    have hopn : b.opn = true := by
      cases ho : b.opn with
      | true => rfl
      | false => simp [exactCap, ho] at hex
    simp only [cond_false, show Nat.beq b.es sz = true from by rw [hbO.2.2.2.1 hopn]; exact Nat.beq_refl _, cond_true, e2, Nat.sub_zero]
theorem SV.shl6 {n : Int} (hx : og g x = .int .i64 n) (hy : og g y = .int .u64 (Int.ofNat 6)) (hb : -9223372036854775808 ≤ n * 64 ∧ n * 64 < 9223372036854775808) (hR : R (.int .i64 (n * 64)) s) : SV X P ro g (.binOp .shl t x y yt) s R :=
  SV.bin hx hy (by
    show shiftBin .shl .i64 n (Int.ofNat 6) = _
    simp only [shiftBin, show min 6 IntKind.i64.bits = 6 from rfl]
    rw [show (Int.ofNat (2 ^ 6)) = 64 from rfl, wrap64 hb]) hR
end
end
end Go.Ab

namespace Go.Ab
noncomputable section
/-! ### Drawn regions of which only some acts may stand anywhere beside the readings -/
def calmU (P : Program) (bef : List Nat) (l : List (Nat × Oper)) (U : List Nat) : Bool :=
  l.all fun x => l.all fun y => match clsOf P x.2.op, clsOf P y.2.op with
    | .read, .act => U.contains y.1 || ordered bef x.1 y.1
    | _, _ => true
def WM (X : CallE) (P : Program) (ro : Nat) (H : Hp) (U : List Nat) (nt : Nat) (all : List Oper) (l : List (Nat × Oper)) (g : Gm) (ds : List Deferred) (s : St) (Q : Gm → List Deferred → St → Prop) : Prop :=
  ∀ t : T Value, t.get = g → ∃ (a' : AAct) (s' : St), (∃ K, ∀ j, K ≤ j → ∃ log, evalDraw P ro (evX X P ro j) nt all l ⟨t, ds⟩ s = some (a', s', log) ∧
    ∀ r ∈ log, (r.i, r.o) ∈ l ∧ (U.contains r.i = true → Models ro r.s H ∧ Models ro r.s' H) ∧ (isRead P r = true → ∀ s1, Models ro s1 H → isVal r.v (evalOp P ro r.tm r.o.op s1) = true)) ∧ Q a'.tm.get a'.defers s'
section
variable {X : CallE} {P : Program} {ro : Nat} {H : Hp} {U : List Nat} {nt i : Nat} {all : List Oper} {rest : List (Nat × Oper)} {g : Gm} {ds : List Deferred} {s : St} {Q : Gm → List Deferred → St → Prop}
  {op : Op} {ty : TypeId} {pos : String} {after : Array Edge} {d : Nat}
theorem WM.nil (h : Q g ds s) : WM X P ro H U nt all [] g ds s Q := fun t ht => ⟨⟨t, ds⟩, s, ⟨0, fun _ _ => ⟨[], rfl, fun r hr => by cases hr⟩⟩, by subst ht; exact h⟩
theorem all_cons_logM {p : Rec → Prop} {x : Nat × Oper} {l : List (Nat × Oper)} {log : List Rec} {r0 : Rec} (h0 : (r0.i, r0.o) = x ∧ p r0) (h : ∀ r ∈ log, (r.i, r.o) ∈ l ∧ p r) : ∀ r ∈ r0 :: log, (r.i, r.o) ∈ x :: l ∧ p r := fun r hr => by
  rcases List.mem_cons.mp hr with rfl | hr
  · exact ⟨by rw [h0.1]; exact List.mem_cons_self, h0.2⟩
  · exact ⟨List.mem_cons_of_mem _ (h r hr).1, (h r hr).2⟩
theorem not_read {r : Rec} (hc : (match clsOf P r.o.op with | .read => false | _ => true) = true) (hr : isRead P r = true) : False := by
  unfold isRead at hr
  cases e : clsOf P r.o.op <;> rw [e] at hc hr <;> first | (cases hc; done) | cases hr
theorem WM.act (hu : U.contains i = false) (hc : (match clsOf P op with | .read => false | _ => true) = true) (h : SV X P ro g op s (fun v s' => WM X P ro H U nt all rest (up g d v) ds s' Q)) (hd : d < nt) :
    WM X P ro H U nt all ((i, ⟨some d, op, ty, pos, after, none⟩) :: rest) g ds s Q := fun t ht => by
  obtain ⟨v, s', ⟨K, hK⟩, hR⟩ := h
  obtain ⟨a1, s1, ⟨K2, hK2⟩, hQ⟩ := hR (t.set d v) (by rw [get_up, ht])
  refine ⟨a1, s1, ⟨max K K2, fun j hj => ?_⟩, hQ⟩
  obtain ⟨log, h1, h2⟩ := hK2 j (by omega)
  refine ⟨⟨i, ⟨some d, op, ty, pos, after, none⟩, t, s, s', v, true⟩ :: log, ?_, all_cons_logM ⟨rfl, (fun h => by rw [hu] at h; cases h), fun hr => (not_read hc hr).elim⟩ h2⟩
  simp only [evalDraw, wantedA, hK j (by omega) t ht, putK_yes hd, h1]
theorem WM.actU (hc : (match clsOf P op with | .read => false | _ => true) = true) (hM : Models ro s H) (h : SV X P ro g op s (fun v s' => Models ro s' H ∧ WM X P ro H U nt all rest (up g d v) ds s' Q)) (hd : d < nt) :
    WM X P ro H U nt all ((i, ⟨some d, op, ty, pos, after, none⟩) :: rest) g ds s Q := fun t ht => by
  obtain ⟨v, s', ⟨K, hK⟩, hM', hR⟩ := h
  obtain ⟨a1, s1, ⟨K2, hK2⟩, hQ⟩ := hR (t.set d v) (by rw [get_up, ht])
  refine ⟨a1, s1, ⟨max K K2, fun j hj => ?_⟩, hQ⟩
  obtain ⟨log, h1, h2⟩ := hK2 j (by omega)
  refine ⟨⟨i, ⟨some d, op, ty, pos, after, none⟩, t, s, s', v, true⟩ :: log, ?_, all_cons_logM ⟨rfl, fun _ => ⟨hM, hM'⟩, fun hr => (not_read hc hr).elim⟩ h2⟩
  simp only [evalDraw, wantedA, hK j (by omega) t ht, putK_yes hd, h1]
theorem WM.act0 (hu : U.contains i = false) (hc : (match clsOf P op with | .read => false | _ => true) = true) (h : SV X P ro g op s (fun _ s' => WM X P ro H U nt all rest g ds s' Q)) :
    WM X P ro H U nt all ((i, ⟨none, op, ty, pos, after, none⟩) :: rest) g ds s Q := fun t ht => by
  obtain ⟨v, s', ⟨K, hK⟩, hR⟩ := h
  obtain ⟨a1, s1, ⟨K2, hK2⟩, hQ⟩ := hR t ht
  refine ⟨a1, s1, ⟨max K K2, fun j hj => ?_⟩, hQ⟩
  obtain ⟨log, h1, h2⟩ := hK2 j (by omega)
  refine ⟨⟨i, ⟨none, op, ty, pos, after, none⟩, t, s, s', v, true⟩ :: log, ?_, all_cons_logM ⟨rfl, (fun h => by rw [hu] at h; cases h), fun hr => (not_read hc hr).elim⟩ h2⟩
  simp only [evalDraw, wantedA, hK j (by omega) t ht, putK, h1]
theorem WM.read {v : Value} (hst : St1 P ro H g op v) (hM : Models ro s H) (h : WM X P ro H U nt all rest (up g d v) ds s Q) (hd : d < nt) :
    WM X P ro H U nt all ((i, ⟨some d, op, ty, pos, after, none⟩) :: rest) g ds s Q := fun t ht => by
  obtain ⟨a1, s1, ⟨K2, hK2⟩, hQ⟩ := h (t.set d v) (by rw [get_up, ht])
  refine ⟨a1, s1, ⟨K2, fun j hj => ?_⟩, hQ⟩
  obtain ⟨log, h1, h2⟩ := hK2 j (by omega)
  have he := hst.1 s hM t ht
  refine ⟨⟨i, ⟨some d, op, ty, pos, after, none⟩, t, s, s, v, true⟩ :: log, ?_, all_cons_logM ⟨rfl, fun _ => ⟨hM, hM⟩, fun _ s1 h1 => ?_⟩ h2⟩
  · simp only [evalDraw, wantedA, stepOp, he, show Nat.ble s.next s.next = true from Nat.ble_eq.mpr (Nat.le_refl _), cond_true, putK_yes hd, h1]
  · simp only [hst.1 s1 h1 t ht, isVal]; exact hst.2
theorem stillR_knownU {bef : List Nat} {l : List (Nat × Oper)} {log : List Rec} (hu : calmU P bef l U = true) (h : ∀ r ∈ log, (r.i, r.o) ∈ l ∧ (U.contains r.i = true → Models ro r.s H ∧ Models ro r.s' H) ∧ (isRead P r = true → ∀ s1, Models ro s1 H → isVal r.v (evalOp P ro r.tm r.o.op s1) = true)) : stillR P ro bef log = true := by
  unfold stillR
  rw [List.all_eq_true]
  intro r hr
  cases hrd : isRead P r with
  | false => simp
  | true =>
    rw [Bool.or_eq_true, List.all_eq_true]
    right
    intro e he
    cases hae : isAct P e with
    | false => simp
    | true =>
      obtain ⟨m1, _, h3⟩ := h r hr
      obtain ⟨m2, h1, _⟩ := h e he
      have hc1 : clsOf P r.o.op = .read := by unfold isRead at hrd; cases e : clsOf P r.o.op <;> rw [e] at hrd <;> first | rfl | cases hrd
      have hc2 : clsOf P e.o.op = .act := by unfold isAct at hae; cases e' : clsOf P e.o.op <;> rw [e'] at hae <;> first | rfl | cases hae
      unfold calmU at hu
      rw [List.all_eq_true] at hu
      have q1 := hu _ m1
      rw [List.all_eq_true] at q1
      have q2 := q1 _ m2
      simp only [hc1, hc2] at q2
      rw [Bool.or_eq_true] at q2
      rcases q2 with q | q
      · obtain ⟨k1, k2⟩ := h1 q
        rw [h3 hrd _ k1, h3 hrd _ k2]; simp
      · rw [q]; simp
theorem WC.drawM {id : Nat} {ops : Array Oper} (U : List Nat) (H : Hp) (l : List Nat) {Q : Ex → Gm → List Deferred → St → Prop} (hd : drawOk P ops = true) (hl : canonOf P ops = pickOps ops.toList l) (hu : calmU P (befOf ops) (pickOps ops.toList l) U = true)
    (h : WM X P ro H U nt ops.toList (pickOps ops.toList l) g ds s (Q .normal)) : WC X P ro nt (.region id ops true) g ds s Q := fun t ht => by
  obtain ⟨a1, s1, ⟨K, hK⟩, hQ⟩ := h t ht
  refine ⟨⟨.normal, a1, s1⟩, ⟨K + 1, fun k j hk hj => ?_⟩, hQ⟩
  obtain ⟨k, rfl⟩ : ∃ m, k = m + 1 := ⟨k - 1, by omega⟩
  obtain ⟨log, h1, h2⟩ := hK j (by omega)
  simp only [evalC, cond_true, hd, hl, h1, stillR_knownU hu h2]
theorem WM.act0U (hc : (match clsOf P op with | .read => false | _ => true) = true) (hM : Models ro s H) (h : SV X P ro g op s (fun _ s' => Models ro s' H ∧ WM X P ro H U nt all rest g ds s' Q)) :
    WM X P ro H U nt all ((i, ⟨none, op, ty, pos, after, none⟩) :: rest) g ds s Q := fun t ht => by
  obtain ⟨v, s', ⟨K, hK⟩, hM', hR⟩ := h
  obtain ⟨a1, s1, ⟨K2, hK2⟩, hQ⟩ := hR t ht
  refine ⟨a1, s1, ⟨max K K2, fun j hj => ?_⟩, hQ⟩
  obtain ⟨log, h1, h2⟩ := hK2 j (by omega)
  refine ⟨⟨i, ⟨none, op, ty, pos, after, none⟩, t, s, s', v, true⟩ :: log, ?_, all_cons_logM ⟨rfl, fun _ => ⟨hM, hM'⟩, fun hr => (not_read hc hr).elim⟩ h2⟩
  simp only [evalDraw, wantedA, hK j (by omega) t ht, putK, h1]
theorem St1.loadRd {t : TypeId} {x : Operand} [h : TCell P t] {ν o : Nat} {c : Nat → Option Value} {v : Value} (hx : og g x = .pointer (some ⟨ν, o, none⟩)) (hH : H ν = some (.rd c)) (hv : c o = some v) (hs : sameV 4 v v = true) : St1 P ro H g (.load t x) v :=
  ⟨fun s1 h1 t' ht => by simp only [evalOp, opv_og, ht, hx, ldVar, h.ag, (h1.ok _ _ hH).2 o v hv], hs⟩
/-- Of a row only some cells are told. -/
theorem Models.rd {ν es : Nat} {vs : List Value} {c : Nat → Option Value} (hM : Models ro s (H.up ν (.row es vs))) (hc : ∀ i v, c i = some v → vs[i]? = some v) : Models ro s (H.up ν (.rd c)) where
  low := hM.low
  ok := fun μ o e => by
    unfold Hp.up at e
    by_cases hν : μ = ν
    · rw [if_pos hν] at e; cases e; subst hν
      exact ⟨(hM.ok _ _ Hp.up_same).1, fun i v h => ldCell_row hM Hp.up_same (hc i v h)⟩
    · rw [if_neg hν] at e; exact hM.ok _ _ (Hp.up_ne hν e)
end
end
end Go.Ab

namespace Go.Ab
noncomputable section
def strOf (bs : List Int) : ByteArray := ⟨(bs.map fun z => UInt8.ofNat z.toNat).toArray⟩
theorem bytes_cells : ∀ {bs : List Int}, (∀ z ∈ bs, 0 ≤ z ∧ z < 256) → bytesOfCells (bs.map (.int .u8)) = some (bs.map fun z => UInt8.ofNat z.toNat)
  | [], _ => rfl
  | z :: bs, h => by
    obtain ⟨n, rfl⟩ : ∃ n : Nat, z = n := ⟨z.toNat, by have := h z (by simp); omega⟩
    have ih := bytes_cells (bs := bs) fun z hz => h z (by simp [hz])
    show (match bytesOfCells (bs.map (.int .u8)) with | some r => some (UInt8.ofNat n :: r) | none => none) = _
    rw [ih]; rfl
theorem bytes_inj : ∀ {a b : List Int}, (∀ z ∈ a, 0 ≤ z ∧ z < 256) → (∀ z ∈ b, 0 ≤ z ∧ z < 256) → (a.map fun z => UInt8.ofNat z.toNat) = (b.map fun z => UInt8.ofNat z.toNat) → a = b
  | [], [], _, _, _ => rfl
  | [], _ :: _, _, _, h => by cases h
  | _ :: _, [], _, _, h => by cases h
  | x :: a, y :: b, ha, hb, h => by
    rw [List.map_cons, List.map_cons] at h
    injection h with h1 h2
    have hx := ha x (by simp)
    have hy := hb y (by simp)
    have h3 := congrArg UInt8.toNat h1
    rw [UInt8.toNat_ofNat', UInt8.toNat_ofNat'] at h3
    rw [bytes_inj (fun z hz => ha z (by simp [hz])) (fun z hz => hb z (by simp [hz])) h2, show x = y by omega]
theorem beq_str {a b : List Int} (ha : ∀ z ∈ a, 0 ≤ z ∧ z < 256) (hb : ∀ z ∈ b, 0 ≤ z ∧ z < 256) : beqBytes (strOf a).data.toList (strOf b).data.toList = decide (a = b) := by
  rw [beqBytes_eq]
  by_cases h : a = b
  · subst h; simp
  · rw [decide_eq_false h]
    cases e : (strOf a).data.toList == (strOf b).data.toList with
    | false => rfl
    | true => exact absurd (bytes_inj ha hb (by simpa [strOf] using eq_of_beq e)) h
section
variable {X : CallE} {P : Program} {ro : Nat} {g : Gm} {s : St} {H : Hp} {R : Value → St → Prop} {x y : Operand} {t yt : TypeId}
/-- A slice of bytes as a string. -/
theorem SV.convBS {src dst e : TypeId} {v : Value} {n : Nat} {bs : List Int} (h1 : P.underlying src = some (.slice e)) (h2 : P.underlying dst = some .string) (h3 : P.underlying e = some (.int .u8)) (hM : Models ro s H) (hx : og g x = v)
    (hv : SlO H v 1 n (bs.map (.int .u8))) (hl : bs.length = n) (h0 : ∀ z ∈ bs, 0 ≤ z ∧ z < 256) (hR : R (.string (strOf bs)) s) : SV X P ro g (.convert src dst x) s R := by
  refine SV.pure (fun t' ht' => ?_) hR
  rcases hv with ⟨rfl, rfl, hb⟩ | ⟨ν, c, ws, rfl, hH, hw, hc, hb⟩
  · obtain rfl := List.length_eq_zero_iff.mp hl
    simp only [evalOp, convOf, opv_og, ht', h1, h2, hx, h3]; rfl
  · have hld := ldCells_row (o := 0) (n := n) hM hH (l := bs.map (.int .u8)) (by rw [List.length_map, hl]) (fun i v hi => by
      rw [hb, List.getElem?_take] at hi
      split at hi
      · rw [Nat.zero_add]; exact hi
      · cases hi)
    simp only [evalOp, convOf, opv_og, ht', h1, h2, hx, h3, hld, bytes_cells h0]; rfl
theorem SV.eqlStr {a b : ByteArray} (hx : og g x = .string a) (hy : og g y = .string b) (hR : R (.bool (beqBytes a.data.toList b.data.toList)) s) : SV X P ro g (.binOp .eql t x y yt) s R :=
  SV.bin hx hy rfl hR
end
section
variable {X : CallE} {P : Program} {ro : Nat} {H : Hp} {U : List Nat} {nt i : Nat} {all : List Oper} {rest : List (Nat × Oper)} {g : Gm} {ds : List Deferred} {s : St} {Q : Gm → List Deferred → St → Prop}
  {op : Op} {ty : TypeId} {pos : String} {after : Array Edge} {d jj dj : Nat} {w b : Bool} {oj : Oper}
/-! ### Guarded operations in a drawn region with free acts -/
theorem WM.gAct (ho : nth all jj = some oj) (hj : oj.dst = some dj) (hb : g dj = some (.bool b)) (hw : b = w) (hu : U.contains i = false) (hc : (match clsOf P op with | .read => false | _ => true) = true) (h : SV X P ro g op s (fun v s' => WM X P ro H U nt all rest (up g d v) ds s' Q)) (hd : d < nt) :
    WM X P ro H U nt all ((i, ⟨some d, op, ty, pos, after, some (jj, w)⟩) :: rest) g ds s Q := fun t ht => by
  obtain ⟨v, s', ⟨K, hK⟩, hR⟩ := h
  obtain ⟨a1, s1, ⟨K2, hK2⟩, hQ⟩ := hR (t.set d v) (by rw [get_up, ht])
  refine ⟨a1, s1, ⟨max K K2, fun j hj' => ?_⟩, hQ⟩
  obtain ⟨log, h1, h2⟩ := hK2 j (by omega)
  refine ⟨⟨i, ⟨some d, op, ty, pos, after, some (jj, w)⟩, t, s, s', v, true⟩ :: log, ?_, all_cons_logM ⟨rfl, (fun h => by rw [hu] at h; cases h), fun hr => (not_read hc hr).elim⟩ h2⟩
  have e : (b == w) = true := by simpa using hw
  simp only [evalDraw, wantedA, ho, hj, ht, hb, e, hK j (by omega) t ht, putK_yes hd, h1]
theorem WM.gActU (ho : nth all jj = some oj) (hj : oj.dst = some dj) (hb : g dj = some (.bool b)) (hw : b = w) (hc : (match clsOf P op with | .read => false | _ => true) = true) (hM : Models ro s H) (h : SV X P ro g op s (fun v s' => Models ro s' H ∧ WM X P ro H U nt all rest (up g d v) ds s' Q)) (hd : d < nt) :
    WM X P ro H U nt all ((i, ⟨some d, op, ty, pos, after, some (jj, w)⟩) :: rest) g ds s Q := fun t ht => by
  obtain ⟨v, s', ⟨K, hK⟩, hM', hR⟩ := h
  obtain ⟨a1, s1, ⟨K2, hK2⟩, hQ⟩ := hR (t.set d v) (by rw [get_up, ht])
  refine ⟨a1, s1, ⟨max K K2, fun j hj' => ?_⟩, hQ⟩
  obtain ⟨log, h1, h2⟩ := hK2 j (by omega)
  refine ⟨⟨i, ⟨some d, op, ty, pos, after, some (jj, w)⟩, t, s, s', v, true⟩ :: log, ?_, all_cons_logM ⟨rfl, fun _ => ⟨hM, hM'⟩, fun hr => (not_read hc hr).elim⟩ h2⟩
  have e : (b == w) = true := by simpa using hw
  simp only [evalDraw, wantedA, ho, hj, ht, hb, e, hK j (by omega) t ht, putK_yes hd, h1]
theorem WM.gRead {v : Value} (ho : nth all jj = some oj) (hj : oj.dst = some dj) (hb : g dj = some (.bool b)) (hw : b = w) (hst : St1 P ro H g op v) (hM : Models ro s H) (h : WM X P ro H U nt all rest (up g d v) ds s Q) (hd : d < nt) :
    WM X P ro H U nt all ((i, ⟨some d, op, ty, pos, after, some (jj, w)⟩) :: rest) g ds s Q := fun t ht => by
  obtain ⟨a1, s1, ⟨K2, hK2⟩, hQ⟩ := h (t.set d v) (by rw [get_up, ht])
  refine ⟨a1, s1, ⟨K2, fun j hj' => ?_⟩, hQ⟩
  obtain ⟨log, h1, h2⟩ := hK2 j (by omega)
  have he := hst.1 s hM t ht
  have e : (b == w) = true := by simpa using hw
  refine ⟨⟨i, ⟨some d, op, ty, pos, after, some (jj, w)⟩, t, s, s, v, true⟩ :: log, ?_, all_cons_logM ⟨rfl, fun _ => ⟨hM, hM⟩, fun _ s1 h1 => ?_⟩ h2⟩
  · simp only [evalDraw, wantedA, ho, hj, ht, hb, e, stepOp, he, show Nat.ble s.next s.next = true from Nat.ble_eq.mpr (Nat.le_refl _), cond_true, putK_yes hd, h1]
  · simp only [hst.1 s1 h1 t ht, isVal]; exact hst.2
theorem WM.gNo (ho : nth all jj = some oj) (hj : oj.dst = some dj) (hb : g dj = some (.bool b)) (hw : b = !w) (hM : Models ro s H) (h : WM X P ro H U nt all rest (up g d und) ds s Q) (hd : d < nt) :
    WM X P ro H U nt all ((i, ⟨some d, op, ty, pos, after, some (jj, w)⟩) :: rest) g ds s Q := fun t ht => by
  obtain ⟨a1, s1, ⟨K2, hK2⟩, hQ⟩ := h (t.set d und) (by rw [get_up, ht])
  refine ⟨a1, s1, ⟨K2, fun j hj' => ?_⟩, hQ⟩
  obtain ⟨log, h1, h2⟩ := hK2 j (by omega)
  have e : (b == w) = false := by subst hw; cases w <;> rfl
  refine ⟨⟨i, ⟨some d, op, ty, pos, after, some (jj, w)⟩, t, s, s, und, false⟩ :: log, ?_, all_cons_logM ⟨rfl, fun _ => ⟨hM, hM⟩, fun hr => ?_⟩ h2⟩
  · simp only [evalDraw, wantedA, ho, hj, ht, hb, e, putK_yes hd, h1]
  · exfalso; unfold isRead at hr; split at hr <;> cases hr
end
end
end Go.Ab
