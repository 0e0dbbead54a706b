/- A part of the proof that what the evaluator says of a piece of code, the model does: no condition but those that each theorem states. -/
import Derived.Orders
import Derived.Test.YtneiaobhjjbedaaEv1
namespace Go.Ab

/-! ### Orders of a drawn region -/

def Preds (ops : Array Oper) (i j : Nat) : Prop := ∃ o e, ops[i]? = some o ∧ e ∈ o.after.toList ∧ Region.binds .any e = true ∧ e.on = j

/-- An order that may be drawn: each operation once, behind those that it waits for. -/
structure Good (ops : Array Oper) (l : List Nat) : Prop where
  lt : ∀ i ∈ l, i < ops.size
  all : ∀ i, i < ops.size → i ∈ l
  nodup : l.Nodup
  pred : ∀ k i j, l[k]? = some i → Preds ops i j → j < ops.size → j ∈ l.take k

theorem binds_any {m : Region.Mode} {e : Edge} (h : Region.binds .any e = true) : Region.binds m e = true := by
  unfold Region.binds at *
  cases hg : e.ground <;> simp_all

theorem ready_mem {md : Region.Mode} {ops : Array Oper} {listed : Array Bool} {i : Nat} (h : i ∈ Region.ready md ops listed) :
    i < ops.size ∧ listed.getD i true = false ∧ ∀ o, ops[i]? = some o → ∀ e ∈ o.after.toList, Region.binds md e = true → listed.getD e.on false = true := by
  simp only [Region.ready, List.mem_filter, List.mem_range, Bool.and_eq_true, Bool.not_eq_true'] at h
  obtain ⟨h1, h2, h3⟩ := h
  refine ⟨h1, h2, fun o ho e he hb => ?_⟩
  rw [ho] at h3
  simp only [Option.map_some, Option.getD_some, Array.all_eq_true] at h3
  obtain ⟨k, hk⟩ := List.mem_iff_getElem?.1 he
  have hk' : k < o.after.size := by
    have := (List.getElem?_eq_some_iff.1 hk).1
    simpa using this
  have := h3 k hk'
  have he2 : o.after[k] = e := by
    have := (List.getElem?_eq_some_iff.1 hk).2
    simpa using this
  rw [he2, hb] at this
  simpa using this

/-- The greedy order, from some of the operations on. -/
structure Part (md : Region.Mode) (ops : Array Oper) (listed : Array Bool) (l : List Nat) : Prop where
  lt : ∀ i ∈ l, i < ops.size ∧ listed.getD i true = false
  nodup : l.Nodup
  pred : ∀ k i, l[k]? = some i → ∀ o, ops[i]? = some o → ∀ e ∈ o.after.toList, Region.binds md e = true → listed.getD e.on false = true ∨ e.on ∈ l.take k

theorem getD_set {listed : Array Bool} {i j : Nat} {d : Bool} (hi : i < listed.size) : (listed.setIfInBounds i true).getD j d = if j = i then true else listed.getD j d := by
  simp only [Array.getD_eq_getD_getElem?, Array.getElem?_setIfInBounds]
  by_cases h : j = i
  · subst h; simp [hi]
  · rw [if_neg h, if_neg (fun e => h e.symm)]

theorem go_part {md : Region.Mode} {ops : Array Oper} : ∀ (fuel t : Nat) (listed : Array Bool), listed.size = ops.size → Part md ops listed (Region.linearise.go md ops fuel t listed [])
  | 0, t, listed, hs => ⟨fun i h => by simp [Region.linearise.go] at h, by simp [Region.linearise.go], fun k i h => by simp [Region.linearise.go] at h⟩
  | fuel + 1, t, listed, hs => by
    simp only [Region.linearise.go]
    change Part md ops listed (match (Region.ready md ops listed)[t % (Region.ready md ops listed).length]? with
      | some i => Region.linearise.go md ops fuel (t / (Region.ready md ops listed).length) (listed.setIfInBounds i true) [i]
      | none => [].reverse)
    cases hi : (Region.ready md ops listed)[t % (Region.ready md ops listed).length]? with
    | none => exact ⟨fun i h => by simp at h, by simp, fun k i h => by simp at h⟩
    | some i =>
      simp only []
      rw [linearise_go_acc, List.reverse_singleton, List.singleton_append]
      have hmem := ready_mem (List.mem_of_getElem? hi)
      have hil : i < listed.size := by omega
      have ih := go_part (md := md) (ops := ops) fuel (t / (Region.ready md ops listed).length) (listed.setIfInBounds i true) (by simpa using hs)
      refine ⟨?_, ?_, ?_⟩
      · intro j hj
        rcases List.mem_cons.1 hj with rfl | hj
        · exact ⟨hmem.1, hmem.2.1⟩
        · obtain ⟨h1, h2⟩ := ih.lt j hj
          rw [getD_set hil] at h2
          by_cases e : j = i
          · rw [if_pos e] at h2; cases h2
          · rw [if_neg e] at h2; exact ⟨h1, h2⟩
      · refine List.nodup_cons.2 ⟨fun hin => ?_, ih.nodup⟩
        obtain ⟨_, h2⟩ := ih.lt i hin
        rw [getD_set hil, if_pos rfl] at h2; cases h2
      · intro k j hk o ho e he hb
        cases k with
        | zero => simp at hk; subst hk; exact .inl (hmem.2.2 o ho e he hb)
        | succ k =>
          simp at hk
          rcases ih.pred k j hk o ho e he hb with h | h
          · rw [getD_set hil] at h
            by_cases e2 : e.on = i
            · right; rw [e2]; simp
            · rw [if_neg e2] at h; exact .inl h
          · right; simp [h]

theorem count_set : ∀ (l : List Bool) (j : Nat), l[j]? = some false → ((l.set j true).filter (fun b => !b)).length + 1 = (l.filter (fun b => !b)).length
  | [], j, h => by simp at h
  | b :: l, 0, h => by simp at h; subst h; simp
  | b :: l, j + 1, h => by
    have := count_set l j (by simpa using h)
    cases b
    · simp only [List.set_cons_succ, List.filter_cons, Bool.not_false, if_true, List.length_cons]; omega
    · simp only [List.set_cons_succ, List.filter_cons, Bool.not_true, Bool.false_eq_true, if_false]; omega

/-- If some operation is not listed and one is always ready, the greedy order comes to all. -/
theorem go_all {md : Region.Mode} {ops : Array Oper} (hready : ∀ listed : Array Bool, listed.size = ops.size → (∃ i, i < ops.size ∧ listed.getD i true = false) → Region.ready md ops listed ≠ []) :
    ∀ (fuel t : Nat) (listed : Array Bool), listed.size = ops.size → (listed.toList.filter (fun b => !b)).length ≤ fuel → ∀ i, i < ops.size → listed.getD i true = false → i ∈ Region.linearise.go md ops fuel t listed []
  | 0, t, listed, hs, hf, i, hi, hl => by
    have hi' : i < listed.size := by omega
    have hmem : false ∈ listed.toList.filter (fun b => !b) := by
      simp only [List.mem_filter, Bool.not_false, and_true]
      have : listed.toList[i]? = some false := by
        rw [Array.getElem?_toList]
        simp only [Array.getD_eq_getD_getElem?] at hl
        rw [Array.getElem?_eq_getElem hi'] at hl ⊢
        simpa using hl
      exact List.mem_of_getElem? this
    have := List.length_pos_of_mem hmem
    omega
  | fuel + 1, t, listed, hs, hf, i, hi, hl => by
    simp only [Region.linearise.go]
    change i ∈ (match (Region.ready md ops listed)[t % (Region.ready md ops listed).length]? with
      | some i => Region.linearise.go md ops fuel (t / (Region.ready md ops listed).length) (listed.setIfInBounds i true) [i]
      | none => [].reverse)
    have hne := hready listed hs ⟨i, hi, hl⟩
    have hlen : 0 < (Region.ready md ops listed).length := by
      cases h : Region.ready md ops listed with
      | nil => exact absurd h hne
      | cons a l => simp
    cases hj : (Region.ready md ops listed)[t % (Region.ready md ops listed).length]? with
    | none =>
      have := Nat.mod_lt t hlen
      rw [List.getElem?_eq_getElem this] at hj; cases hj
    | some j =>
      simp only []
      rw [linearise_go_acc, List.reverse_singleton, List.singleton_append]
      have hmem := ready_mem (List.mem_of_getElem? hj)
      have hjl : j < listed.size := by omega
      by_cases e : i = j
      · subst e; simp
      · refine List.mem_cons_of_mem _ (go_all hready fuel _ (listed.setIfInBounds j true) (by simpa using hs) ?_ i hi (by rw [getD_set hjl, if_neg e]; exact hl))
        have hfalse : listed.toList[j]? = some false := by
          rw [Array.getElem?_toList]
          have := hmem.2.1
          simp only [Array.getD_eq_getD_getElem?] at this
          rw [Array.getElem?_eq_getElem hjl] at this ⊢
          simpa using this
        have := count_set listed.toList j hfalse
        have e2 : (listed.setIfInBounds j true).toList = listed.toList.set j true := by simp
        rw [e2]; omega


theorem getD_replicate_false {n j : Nat} : (Array.replicate n false).getD j false = false := by
  simp only [Array.getD_eq_getD_getElem?, Array.getElem?_replicate]
  split <;> rfl

theorem good_of {md : Region.Mode} {ops : Array Oper} (hready : ∀ listed : Array Bool, listed.size = ops.size → (∃ i, i < ops.size ∧ listed.getD i true = false) → Region.ready md ops listed ≠ []) (t : Nat) :
    Good ops (Region.linearise md ops t) := by
  have hp : Part md ops (Array.replicate ops.size false) (Region.linearise md ops t) := go_part ops.size t _ (by simp)
  refine ⟨fun i hi => (hp.lt i hi).1, fun i hi => ?_, hp.nodup, fun k i j hk ⟨o, e, ho, he, hb, hj⟩ hlt => ?_⟩
  · refine go_all hready ops.size t _ (by simp) ?_ i hi ?_
    · refine Nat.le_trans (List.length_filter_le _ _) (by simp)
    · simp [Array.getD_eq_getD_getElem?, hi]
  · subst hj
    rcases hp.pred k i hk o ho e he (binds_any hb) with h | h
    · rw [getD_replicate_false] at h; cases h
    · exact h

theorem mem_ready {md : Region.Mode} {ops : Array Oper} {listed : Array Bool} {i : Nat} {o : Oper} (ho : ops[i]? = some o) (h1 : listed.getD i true = false)
    (h2 : ∀ e ∈ o.after.toList, Region.binds md e = true → listed.getD e.on false = true) : i ∈ Region.ready md ops listed := by
  have hi : i < ops.size := (Array.getElem?_eq_some_iff.1 ho).1
  simp only [Region.ready, List.mem_filter, List.mem_range, Bool.and_eq_true, Bool.not_eq_true']
  refine ⟨hi, h1, ?_⟩
  rw [ho]
  simp only [Option.map_some, Option.getD_some, Array.all_eq_true]
  intro k hk
  cases hb : Region.binds md o.after[k] with
  | false => rfl
  | true => simpa using h2 _ (by simp [Array.mem_toList_iff]) hb

theorem listed_of {listed : Array Bool} {i : Nat} (hi : i < listed.size) (h : ¬listed.getD i true = false) : listed.getD i false = true := by
  simp only [Array.getD_eq_getD_getElem?] at *
  rw [Array.getElem?_eq_getElem hi] at *
  simpa using h

theorem pool_mem {ops : Array Oper} {i : Nat} {o : Oper} : (i, o) ∈ poolOf ops ↔ ops[i]? = some o := by
  simp only [poolOf, List.mem_map, Prod.mk.injEq, Prod.exists, List.mem_zipIdx_iff_getElem?]
  constructor
  · rintro ⟨a, b, h, rfl, rfl⟩; simpa using h
  · intro h; exact ⟨o, i, by simpa using h, rfl, rfl⟩

theorem lowerIn_spec {md : Region.Mode} {ops : Array Oper} (h : lowerIn md (poolOf ops) = true) {i : Nat} {o : Oper} (ho : ops[i]? = some o) {e : Edge} (he : e ∈ o.after.toList) (hb : Region.binds md e = true) :
    e.on < i := by
  simp only [lowerIn, List.all_eq_true] at h
  have := h (i, o) (pool_mem.2 ho)
  simp only at this
  have := this e he
  rw [hb] at this
  simpa using this

theorem ready_lower {md : Region.Mode} {ops : Array Oper} (hl : lowerIn md (poolOf ops) = true) (listed : Array Bool) (hs : listed.size = ops.size) (hx : ∃ i, i < ops.size ∧ listed.getD i true = false) :
    Region.ready md ops listed ≠ [] := by
  have key : ∀ n i, i < n → i < ops.size → listed.getD i true = false → ∃ j, j ∈ Region.ready md ops listed := by
    intro n
    induction n with
    | zero => intro i hi; omega
    | succ n ih =>
      intro i hi hsz hf
      have ho : ops[i]? = some ops[i] := Array.getElem?_eq_getElem hsz
      by_cases hall : ∀ e ∈ ops[i].after.toList, Region.binds md e = true → listed.getD e.on false = true
      · exact ⟨i, mem_ready ho hf hall⟩
      · have : ∃ e, e ∈ ops[i].after.toList ∧ Region.binds md e = true ∧ ¬listed.getD e.on false = true := by
          apply Classical.byContradiction
          intro hn
          exact hall fun e he hb => Classical.byContradiction fun hc => hn ⟨e, he, hb, hc⟩
        obtain ⟨e, he, hb, hc⟩ := this
        have hlt := lowerIn_spec hl ho he hb
        refine ih e.on (by omega) (by omega) ?_
        apply Classical.byContradiction
        intro hh
        exact hc (listed_of (by omega) hh)
  obtain ⟨i, hi, hf⟩ := hx
  obtain ⟨j, hj⟩ := key (i + 1) i (by omega) hi hf
  exact List.ne_nil_of_mem hj

theorem hasAll_spec {n : Nat} {l : List Nat} (h : hasAll n l = true) {i : Nat} (hi : i < n) : i ∈ l := by
  simp only [hasAll, List.all_eq_true, List.any_eq_true] at h
  obtain ⟨j, hj, he⟩ := h i (List.mem_range.2 hi)
  have := Nat.eq_of_beq_eq_true he
  exact this ▸ hj

theorem ready_full {md : Region.Mode} {ops : Array Oper} (hl : hasAll ops.size (Region.linearise md ops 0) = true) (listed : Array Bool) (hs : listed.size = ops.size) (hx : ∃ i, i < ops.size ∧ listed.getD i true = false) :
    Region.ready md ops listed ≠ [] := by
  have hp : Part md ops (Array.replicate ops.size false) (Region.linearise md ops 0) := go_part ops.size 0 _ (by simp)
  obtain ⟨i, hi, hf⟩ := hx
  obtain ⟨k, hk⟩ := List.getElem?_of_mem (hasAll_spec hl hi)
  have key : ∀ (n k i : Nat), k < n → (Region.linearise md ops 0)[k]? = some i → listed.getD i true = false → ∃ j, j ∈ Region.ready md ops listed := by
    intro n
    induction n with
    | zero => intro k i h; omega
    | succ n ih =>
      intro k i hkn hk hf
      have hsz := (hp.lt i (List.mem_of_getElem? hk)).1
      have ho : ops[i]? = some ops[i] := Array.getElem?_eq_getElem hsz
      by_cases hall : ∀ e ∈ ops[i].after.toList, Region.binds md e = true → listed.getD e.on false = true
      · exact ⟨i, mem_ready ho hf hall⟩
      · have : ∃ e, e ∈ ops[i].after.toList ∧ Region.binds md e = true ∧ ¬listed.getD e.on false = true := by
          apply Classical.byContradiction
          intro hn
          exact hall fun e he hb => Classical.byContradiction fun hc => hn ⟨e, he, hb, hc⟩
        obtain ⟨e, he, hb, hc⟩ := this
        rcases hp.pred k i hk _ ho e he hb with h | h
        · rw [getD_replicate_false] at h; cases h
        · obtain ⟨k', hk'⟩ := List.getElem?_of_mem h
          rw [List.getElem?_take] at hk'
          by_cases hlt : k' < k
          · rw [if_pos hlt] at hk'
            refine ih k' e.on (by omega) hk' ?_
            apply Classical.byContradiction
            intro hh
            exact hc (listed_of (by have := (hp.lt e.on (List.mem_of_getElem? hk')).1; omega) hh)
          · rw [if_neg hlt] at hk'; cases hk'
  obtain ⟨j, hj⟩ := key (k + 1) k i (by omega) hk hf
  exact List.ne_nil_of_mem hj

structure DrawOk (P : Program) (ops : Array Oper) : Prop where
  lower : lowerIn .any (poolOf ops) = true
  modes : P.follows .mixedOrders = true ∨ Region.departs ops = false ∨ (lowerIn .text (poolOf ops) = true ∧ hasAll ops.size (Region.linearise .gc ops 0) = true)
  pairs : pairsOk P ops (befOf ops) (canonOf P ops) = true
  all : hasAll ops.size ((canonOf P ops).map (·.1)) = true

theorem drawOk_spec {P : Program} {ops : Array Oper} (h : drawOk P ops = true) : DrawOk P ops := by
  simp only [drawOk, Bool.and_eq_true, Bool.or_eq_true, Bool.not_eq_true'] at h
  obtain ⟨⟨⟨h1, h2⟩, h3⟩, h4⟩ := h
  refine ⟨h1, ?_, h3, h4⟩
  rcases h2 with (h2 | h2) | h2
  · exact .inl h2
  · exact .inr (.inl h2)
  · exact .inr (.inr h2)

theorem DrawOk.good {P : Program} {ops : Array Oper} (h : DrawOk P ops) (t : Nat) : Good ops (Region.schedule (P.follows .mixedOrders) ops t) := by
  unfold Region.schedule
  split
  · exact good_of (ready_lower h.lower) t
  · rename_i hc
    simp only [Bool.or_eq_true, Bool.not_eq_true', not_or] at hc
    rcases h.modes with h1 | h1 | ⟨h1, h2⟩
    · exact absurd h1 hc.1
    · exact absurd h1 hc.2
    · split
      · exact good_of (ready_lower h1) _
      · exact good_of (ready_full h2) _

/-! ### What stands ahead in every order -/

def Ahead (l : List Nat) (j i : Nat) : Prop := ∀ k, l[k]? = some i → j ∈ l.take k

theorem Ahead.trans {l : List Nat} {a b c : Nat} (h1 : Ahead l a b) (h2 : Ahead l b c) : Ahead l a c := by
  intro k hk
  obtain ⟨k', hk'⟩ := List.getElem?_of_mem (h2 k hk)
  rw [List.getElem?_take] at hk'
  by_cases hlt : k' < k
  · rw [if_pos hlt] at hk'
    have := h1 k' hk'
    obtain ⟨m, hm⟩ := List.getElem?_of_mem this
    rw [List.getElem?_take] at hm
    by_cases hlt2 : m < k'
    · rw [if_pos hlt2] at hm
      exact List.mem_of_getElem? (i := m) (by rw [List.getElem?_take, if_pos (by omega)]; exact hm)
    · rw [if_neg hlt2] at hm; cases hm
  · rw [if_neg hlt] at hk'; cases hk'

theorem maskOf_ahead {ops : Array Oper} {l : List Nat} (hg : Good ops l) {acc : List Nat} (hle : acc.length ≤ ops.size) (hacc : ∀ (i : Nat) (m : Nat) (j : Nat), acc[i]? = some m → m.testBit j = true → j < ops.size → Ahead l j i) {i : Nat} {o : Oper} (ho : ops[i]? = some o) :
    ∀ (es : List Edge), (∀ e ∈ es, e ∈ o.after.toList) → ∀ j, j < ops.size → (maskOf acc es).testBit j = true → Ahead l j i
  | [], _, j, _, h => by simp [maskOf] at h
  | e :: es, hes, j, hj, h => by
    have ih := maskOf_ahead hg hle hacc ho es (fun e' he' => hes e' (List.mem_cons_of_mem _ he')) j hj
    unfold maskOf at h
    cases hb : Region.binds .any e with
    | false => rw [hb] at h; exact ih h
    | true =>
      rw [hb] at h
      simp only [cond_true, Nat.testBit_or, Bool.or_eq_true] at h
      have hpred : e.on < ops.size → Ahead l e.on i := fun hlt k hk => hg.pred k i e.on hk ⟨o, e, ho, hes e (by simp), hb, rfl⟩ hlt
      rcases h with h | h | h
      · exact ih h
      · rw [Nat.testBit_two_pow] at h
        simp only [decide_eq_true_eq] at h
        subst h
        exact hpred hj
      · rw [nth_eq] at h
        split at h
        · rename_i m hm
          have hsz : e.on < acc.length := (List.getElem?_eq_some_iff.1 hm).1
          have hlt : e.on < ops.size := by omega
          exact (hacc e.on m j hm h hj).trans (hpred hlt)
        · simp at h

theorem befGo_ahead {ops : Array Oper} {l : List Nat} (hg : Good ops l) : ∀ (os : List Oper) (acc : List Nat), ops.toList.drop acc.length = os → acc.length ≤ ops.size →
    (∀ (i : Nat) (m : Nat) (j : Nat), acc[i]? = some m → m.testBit j = true → j < ops.size → Ahead l j i) →
    ∀ (i : Nat) (m : Nat) (j : Nat), (befGo os acc)[i]? = some m → m.testBit j = true → j < ops.size → Ahead l j i
  | [], acc, _, _, hacc => by simpa [befGo] using hacc
  | o :: os, acc, hd, hle, hacc => by
    have ho : ops[acc.length]? = some o := by
      have : (ops.toList.drop acc.length)[0]? = some o := by rw [hd]; rfl
      rw [List.getElem?_drop, Array.getElem?_toList] at this; exact this
    have hlt : acc.length < ops.size := (Array.getElem?_eq_some_iff.1 ho).1
    have hd' : ops.toList.drop (acc ++ [maskOf acc o.after.toList]).length = os := by
      rw [List.length_append, List.length_singleton, ← List.drop_drop, hd]; rfl
    refine befGo_ahead hg os _ hd' (by simp; omega) ?_
    intro i m j hi hb hj
    rw [List.getElem?_append] at hi
    split at hi
    · exact hacc i m j hi hb hj
    · rename_i hge
      have : i = acc.length := by
        have := (List.getElem?_eq_some_iff.1 hi).1
        simp at this; omega
      subst this
      simp at hi
      subst hi
      exact maskOf_ahead hg hle hacc ho _ (fun e he => he) j hj hb

theorem bit_ahead {ops : Array Oper} {l : List Nat} (hg : Good ops l) {i j : Nat} (hj : j < ops.size) (h : bitOf (befOf ops) i j = true) : Ahead l j i := by
  unfold bitOf at h
  rw [nth_eq] at h
  split at h
  · rename_i m hm
    exact befGo_ahead hg _ [] rfl (by simp) (fun i m j hi => by simp at hi) i m j hm h hj
  · cases h

/-! ### The one order that is evaluated -/

theorem canon_sub {P : Program} {bef : List Nat} : ∀ (f : Nat) (pool : List (Nat × Oper)), ∀ x ∈ canon P bef f pool, x ∈ pool
  | 0, pool, x, h => by simp [canon] at h
  | f + 1, pool, x, h => by
    unfold canon at h
    split at h
    · rename_i y hy
      rcases List.mem_cons.1 h with rfl | h
      · exact List.mem_of_find?_eq_some hy
      · exact (List.mem_filter.1 (canon_sub f _ x h)).1
    · split at h
      · rename_i y hy
        rcases List.mem_cons.1 h with rfl | h
        · exact List.mem_of_find?_eq_some hy
        · exact (List.mem_filter.1 (canon_sub f _ x h)).1
      · simp at h

theorem canonOf_op {P : Program} {ops : Array Oper} {i : Nat} {o : Oper} (h : (i, o) ∈ canonOf P ops) : ops[i]? = some o :=
  pool_mem.1 (canon_sub _ _ _ h)

theorem DrawOk.mem {P : Program} {ops : Array Oper} (h : DrawOk P ops) {i : Nat} (hi : i < ops.size) : ∃ o, (i, o) ∈ canonOf P ops := by
  have := hasAll_spec h.all hi
  simp only [List.mem_map] at this
  obtain ⟨⟨i', o⟩, hm, rfl⟩ := this
  exact ⟨o, hm⟩

/-- How two operations of a drawn region, the one behind the other, stand to each other. -/
structure PairOk (P : Program) (ops : Array Oper) (i j : Nat) (x y : Oper) : Prop where
  ne : i ≠ j
  way : (ordered (befOf ops) i j = true ∧ bitOf (befOf ops) j i = true) ∨
    (ordered (befOf ops) i j = false ∧ Oper.apart ops x y = true ∧ ¬(isActO P x = true ∧ isActO P y = true) ∧ ¬(isMakeO P x = true ∧ isActO P y = true))

theorem pairsOk_get {P : Program} {ops : Array Oper} : ∀ (l : List (Nat × Oper)), pairsOk P ops (befOf ops) l = true → ∀ (p q : Nat) (i j : Nat) (x y : Oper), p < q → l[p]? = some (i, x) → l[q]? = some (j, y) → PairOk P ops i j x y
  | [], _, p, q, i, j, x, y, _, hp, _ => by simp at hp
  | (a, z) :: l, h, p, q, i, j, x, y, hpq, hp, hq => by
    simp only [pairsOk, Bool.and_eq_true, List.all_eq_true] at h
    obtain ⟨h1, h2⟩ := h
    cases q with
    | zero => omega
    | succ q =>
      simp only [List.getElem?_cons_succ] at hq
      cases p with
      | succ p =>
        simp only [List.getElem?_cons_succ] at hp
        exact pairsOk_get l h2 p q i j x y (by omega) hp hq
      | zero =>
        simp only [List.getElem?_cons_zero, Option.some.injEq, Prod.mk.injEq] at hp
        obtain ⟨rfl, rfl⟩ := hp
        have := h1 (j, y) (List.mem_of_getElem? hq)
        simp only at this
        cases ho : ordered (befOf ops) a j with
        | true =>
          rw [ho] at this
          have hlt : a < j := by simpa using this
          refine ⟨by omega, .inl ⟨ho, ?_⟩⟩
          unfold ordered at ho
          have : Nat.blt a j = true := by simpa using hlt
          rw [this] at ho; exact ho
        | false =>
          rw [ho] at this
          simp only [cond_false, Bool.and_eq_true, Bool.not_eq_true', Bool.and_eq_false_iff] at this
          obtain ⟨⟨⟨h3, h4⟩, h5⟩, h6⟩ := this
          refine ⟨fun e => ?_, .inr ⟨ho, h4, fun ⟨e1, e2⟩ => ?_, fun ⟨e1, e2⟩ => ?_⟩⟩
          · subst e; simp at h3
          · rcases h5 with h5 | h5 <;> simp_all
          · rcases h6 with h6 | h6 <;> simp_all

theorem ordered_comm {bef : List Nat} {i j : Nat} (h : i ≠ j) : ordered bef i j = ordered bef j i := by
  unfold ordered
  rcases Nat.lt_or_gt_of_ne h with h | h
  · have h1 : Nat.blt i j = true := by simpa using h
    have h2 : Nat.blt j i = false := by
      cases hb : Nat.blt j i with
      | false => rfl
      | true => have : j < i := by simpa using hb
                omega
    rw [h1, h2]; rfl
  · have h1 : Nat.blt j i = true := by simpa using h
    have h2 : Nat.blt i j = false := by
      cases hb : Nat.blt i j with
      | false => rfl
      | true => have : i < j := by simpa using hb
                omega
    rw [h1, h2]; rfl

end Go.Ab
