/- The pure statement of GstatePuts: of zones of any size that fits, both ways of putting a point come to the same. -/
import Derived.Test.YtneiaobhjjbedaaPGstatePutsx7
namespace Go.Proofs.Ytneiaobhjjbedaa.Pure
open Go.RowKit Go.Proofs.Ytneiaobhjjbedaa.PGstatePuts Go.Proofs.YtneiaobhjjbedaaW.PrintWords Go.Proofs.YtneiaobhjjbedaaW.PrintLast Go.Proofs.YtneiaobhjjbedaaW.PrintMore
set_option linter.unusedVariables false
set_option linter.unusedSimpArgs false

/-- With rounds enough the answer is r. -/
def E {α : Type} (g : Nat → Option α) (r : α) : Prop := ∃ K, ∀ k, K ≤ k → g k = some r
theorem E.of {α : Type} {r : α} : E (fun _ => some r) r := ⟨0, fun _ _ => rfl⟩
theorem E.one {α : Type} {g : Nat → Option α} {r : α} (e : ∀ k, g (k + 1) = some r) : E g r := by
  refine ⟨1, fun k hk => ?_⟩
  obtain ⟨m, rfl⟩ : ∃ m, k = m + 1 := ⟨k - 1, by omega⟩
  exact e m
theorem E.succ {α : Type} {g h : Nat → Option α} {r : α} (e : ∀ k, g (k + 1) = h k) (H : E h r) : E g r := by
  obtain ⟨K, hK⟩ := H
  refine ⟨K + 1, fun k hk => ?_⟩
  obtain ⟨m, rfl⟩ : ∃ m, k = m + 1 := ⟨k - 1, by omega⟩
  rw [e]; exact hK m (by omega)
theorem E.congr {α : Type} {g h : Nat → Option α} {r : α} (e : ∀ k, g k = h k) (H : E h r) : E g r := by
  obtain ⟨K, hK⟩ := H
  exact ⟨K, fun k hk => (e k).trans (hK k hk)⟩
theorem E.bind {α β : Type} {g : Nat → Option α} {r : α} {h : Nat → α → Option β} {s : β} (H : E g r) (H2 : E (fun k => h k r) s) : E (fun k => (g k).bind (h k)) s := by
  obtain ⟨K, hK⟩ := H
  obtain ⟨L, hL⟩ := H2
  exact ⟨K + L, fun k hk => by simp only [hK k (by omega), Option.bind_some]; exact hL k (by omega)⟩
theorem E.ex {α : Type} {g : Nat → Option α} {r : α} (H : E g r) : ∃ k, g k = some r := by
  obtain ⟨K, hK⟩ := H
  exact ⟨K, hK K (Nat.le_refl _)⟩
theorem wn {i : Nat} (h : i < 9000000000000000000) : wrap64 ((i : Int) + 1) = ((i + 1 : Nat) : Int) := by
  unfold wrap64
  omega
theorem wp {i : Nat} (h0 : 0 < i) (h : i < 9000000000000000000) : wrap64 ((i : Int) - 1) = ((i - 1 : Nat) : Int) := by
  unfold wrap64
  omega
theorem rd_nat (l : List Int) (b : Nat) : rd l (b : Int) = l.getD b 0 := by simp [rd]
theorem rdT (l : List S43) (i : Nat) : rd_T43 l (i : Int) = l.getD i z43 := by simp [rd_T43]

def fixB (n : Int) : Bool := decide (-2147483647 ≤ n ∧ n ≤ 2147483647)
theorem check_f (n : Int) : fixed_Check.f n = some (if fixB n = true then 0 else 14) := by
  unfold fixed_Check.f fixB
  by_cases h1 : n < -2147483647
  · rw [if_pos h1, if_neg (by rw [decide_eq_true_eq]; omega)]
  · rw [if_neg h1]
    by_cases h2 : n > 2147483647
    · rw [if_pos h2, if_neg (by rw [decide_eq_true_eq]; omega)]
    · rw [if_neg h2, if_pos (by rw [decide_eq_true_eq]; omega)]
theorem fix_f (n : Int) : serifref01_Fix.f n = some (fixB n) := by
  unfold serifref01_Fix.f fixB
  by_cases h : n ≥ -2147483647
  · rw [if_pos h]
    exact congrArg some (decide_eq_decide.2 ⟨fun x => ⟨h, x⟩, fun x => x.2⟩)
  · rw [if_neg h]
    exact congrArg some (decide_eq_false (fun x => h x.1)).symm
def okS (s : S43) : Bool := fixB s.f0 && fixB s.f1
theorem odd_f (s : S43) : gstate_Sound_1.f s.f0 s.f1 = some (!okS s) := by
  unfold gstate_Sound_1.f gstate_fits.f okS
  rw [check_f, check_f]
  cases fixB s.f0 <;> cases fixB s.f1 <;> rfl

def idx (l : List S43) : Nat → Nat → Int
  | 0, _ => -1
  | d + 1, i => if okS (l.getD i z43) = true then idx l d (i + 1) else (i : Int)
def allOk (l : List S43) : Nat → Nat → Bool
  | 0, _ => true
  | d + 1, i => okS (l.getD i z43) && allOk l d (i + 1)
theorem idx_ge (l : List S43) : ∀ d i, decide (idx l d i ≥ 0) = !allOk l d i
  | 0, i => rfl
  | d + 1, i => by
    rw [idx, allOk]
    by_cases h : okS (l.getD i z43) = true
    · rw [if_pos h, h, Bool.true_and]
      exact idx_ge l d (i + 1)
    · rw [if_neg h, Bool.eq_false_iff.2 h, Bool.false_and]
      exact decide_eq_true (by omega)
theorem idx_loop (l : List S43) (hb : l.length ≤ 4096) : ∀ d i, i + d = l.length → E (fun k => api_Spot_66.l0 k l (l.length : Int) (i : Int)) (idx l d i)
  | 0, i, h => E.one (fun k => by
      simp only [api_Spot_66.l0]
      rw [if_neg (by omega)]
      rfl)
  | d + 1, i, h => by
    have ih := idx_loop l hb d (i + 1) (by omega)
    have hs : gstate_Sound_1.f (rd_T43 l (i : Int)).f0 (rd_T43 l (i : Int)).f1 = some (!okS (l.getD i z43)) := by rw [rdT]; exact odd_f _
    by_cases ho : okS (l.getD i z43) = true
    · rw [show idx l (d + 1) i = idx l d (i + 1) by rw [idx, if_pos ho]]
      refine E.succ (fun k => ?_) ih
      simp only [api_Spot_66.l0]
      rw [if_pos (by omega), if_pos (by omega), if_pos (by omega), hs, ho]
      simp only [Option.bind_some, Bool.not_true]
      rw [if_neg (by decide), wn (by omega)]
    · rw [show idx l (d + 1) i = (i : Int) by rw [idx, if_neg ho]]
      refine E.one (fun k => ?_)
      simp only [api_Spot_66.l0]
      rw [if_pos (by omega), if_pos (by omega), if_pos (by omega), hs, Bool.eq_false_iff.2 ho]
      simp only [Option.bind_some, Bool.not_false]
      rw [if_pos trivial]
theorem cont (l : List S43) (hb : l.length ≤ 4096) : E (fun k => api_Spot_51.f k l) (!allOk l l.length 0) := by
  rw [← idx_ge]
  exact E.bind (g := fun k => api_Spot_66.f k l) (h := fun _ t => some (decide (t ≥ 0))) (idx_loop l hb l.length 0 (by omega)) E.of

def gends (n : Int) (l : List Int) : Nat → Nat → Int → Bool
  | 0, _, _ => true
  | d + 1, i, last => if l.getD i 0 ≤ last then false else if l.getD i 0 ≥ n then false else gends n l d (i + 1) (l.getD i 0)
def rends (n : Int) (l : List Int) : Nat → Nat → Bool
  | 0, _ => true
  | d + 1, i => if l.getD i 0 < 0 then false else if l.getD i 0 ≥ n then false else if 0 < i then (if l.getD i 0 ≤ l.getD (i - 1) 0 then false else rends n l d (i + 1)) else rends n l d (i + 1)
theorem ends_same (n : Int) (l : List Int) : ∀ d i last, (i = 0 → last = -1) → (0 < i → last = l.getD (i - 1) 0 ∧ 0 ≤ last) → gends n l d i last = rends n l d i
  | 0, i, last, _, _ => rfl
  | d + 1, i, last, h0, h1 => by
    rw [gends, rends]
    rcases Nat.eq_zero_or_pos i with hi | hi
    · have hl := h0 hi
      by_cases e : l.getD i 0 < 0
      · rw [if_pos (by omega), if_pos e]
      · rw [if_neg (by omega), if_neg e]
        by_cases e2 : l.getD i 0 ≥ n
        · rw [if_pos e2, if_pos e2]
        · rw [if_neg e2, if_neg e2, if_neg (by omega)]
          exact ends_same n l d (i + 1) _ (by omega) (fun _ => ⟨rfl, by omega⟩)
    · obtain ⟨hl, hp⟩ := h1 hi
      by_cases e : l.getD i 0 < 0
      · rw [if_pos (by omega), if_pos e]
      · rw [if_neg e]
        by_cases e3 : l.getD i 0 ≤ last
        · rw [if_pos e3]
          by_cases e2 : l.getD i 0 ≥ n
          · rw [if_pos e2]
          · rw [if_neg e2, if_pos hi, if_pos (by omega)]
        · rw [if_neg e3]
          by_cases e2 : l.getD i 0 ≥ n
          · rw [if_pos e2, if_pos e2]
          · rw [if_neg e2, if_neg e2, if_pos hi, if_neg (by omega)]
            exact ends_same n l d (i + 1) _ (by omega) (fun _ => ⟨rfl, by omega⟩)
def both (l0 l1 : List S43) : Nat → Nat → Bool
  | 0, _ => true
  | d + 1, i => okS (l0.getD i z43) && (okS (l1.getD i z43) && both l0 l1 d (i + 1))
theorem both_same (l0 l1 : List S43) : ∀ d i, both l0 l1 d i = (allOk l0 d i && allOk l1 d i)
  | 0, i => rfl
  | d + 1, i => by
    rw [both, allOk, allOk, both_same l0 l1 d (i + 1)]
    cases okS (l0.getD i z43) <;> cases okS (l1.getD i z43) <;> cases allOk l0 d (i + 1) <;> rfl

/-- Is the zone sound? -/
def soundB (l0 l1 : List S43) (l2 l3 : List Bool) (l4 : List Int) : Bool :=
  decide (l0.length ≤ 4096 ∧ l1.length = l0.length ∧ l2.length = l0.length ∧ l3.length = l0.length) && (rends (l0.length : Int) l4 l4.length 0 && both l0 l1 l0.length 0)

theorem gsound_loop (l0 l1 : List S43) (l2 l3 : List Bool) (l4 : List Int) (n : Int) (hb0 : l0.length ≤ 4096) (hb1 : l1.length ≤ 4096) (hb4 : l4.length ≤ 17592186044416) : ∀ d i last, i + d = l4.length →
    E (fun k => gstate_Sound.l0 k n last l4 (l4.length : Int) (i : Int) l0 l1 l2 l3 l4) (gends n l4 d i last && (allOk l0 l0.length 0 && allOk l1 l1.length 0))
  | 0, i, last, h => by
    refine E.succ (h := fun k => (api_Spot_51.f k l0).bind fun t => if t = true then some false else ((api_Spot_51.f k l1).bind fun u => some (!u))) (fun k => ?_) ?_
    · simp only [gstate_Sound.l0]
      rw [if_neg (by omega)]
    · refine E.bind (h := fun k t => if t = true then some false else ((api_Spot_51.f k l1).bind fun u => some (!u))) (cont l0 hb0) ?_
      rw [gends, Bool.true_and]
      cases allOk l0 l0.length 0 with
      | false => exact E.of
      | true =>
        rw [Bool.true_and]
        refine E.congr (h := fun k => (api_Spot_51.f k l1).bind fun u => some (!u)) (fun k => by rw [if_neg (by decide)]) ?_
        have := E.bind (h := fun _ u => some (!u)) (cont l1 hb1) (s := !!allOk l1 l1.length 0) E.of
        rwa [Bool.not_not] at this
  | d + 1, i, last, h => by
    rw [gends]
    by_cases e : l4.getD i 0 ≤ last
    · rw [if_pos e, Bool.false_and]
      refine E.one (fun k => ?_)
      simp only [gstate_Sound.l0]
      rw [if_pos (by omega), if_pos (by omega), if_pos (by omega), rd_nat, if_pos e]
    · rw [if_neg e]
      by_cases e2 : l4.getD i 0 ≥ n
      · rw [if_pos e2, Bool.false_and]
        refine E.one (fun k => ?_)
        simp only [gstate_Sound.l0]
        rw [if_pos (by omega), if_pos (by omega), if_pos (by omega), rd_nat, if_neg e, if_pos e2]
      · rw [if_neg e2]
        refine E.succ (fun k => ?_) (gsound_loop l0 l1 l2 l3 l4 n hb0 hb1 hb4 d (i + 1) (l4.getD i 0) (by omega))
        simp only [gstate_Sound.l0]
        rw [if_pos (by omega), if_pos (by omega), if_pos (by omega), rd_nat, if_neg e, if_neg e2, wn (by omega)]

theorem gsound_bad (l0 l1 : List S43) (l2 l3 : List Bool) (l4 : List Int) (n : Int) : E (fun k => gstate_Sound.j0 k n true l0 l1 l2 l3 l4) false := E.one (fun k => by simp only [gstate_Sound.j0]; rw [if_pos trivial])

theorem gsound (l0 l1 : List S43) (l2 l3 : List Bool) (l4 : List Int) (hb4 : l4.length ≤ 17592186044416) : E (fun k => gstate_Sound.f k l0 l1 l2 l3 l4) (soundB l0 l1 l2 l3 l4) := by
  unfold soundB
  by_cases h1 : l1.length = l0.length
  · by_cases h2 : l2.length = l0.length
    · by_cases h3 : l3.length = l0.length
      · refine E.congr (h := fun k => gstate_Sound.j0 k (l0.length : Int) (decide ((l0.length : Int) > 4096)) l0 l1 l2 l3 l4) (fun k => by unfold gstate_Sound.f; rw [if_pos (by omega), if_pos (by omega), if_pos (by omega)]) ?_
        by_cases h4 : l0.length ≤ 4096
        · rw [decide_eq_true (⟨h4, h1, h2, h3⟩ : l0.length ≤ 4096 ∧ l1.length = l0.length ∧ l2.length = l0.length ∧ l3.length = l0.length), Bool.true_and, both_same, ← ends_same (l0.length : Int) l4 l4.length 0 (-1) (fun _ => rfl) (fun h => by omega), decide_eq_false (show ¬ (l0.length : Int) > 4096 by omega)]
          have H := gsound_loop l0 l1 l2 l3 l4 (l0.length : Int) h4 (by omega) hb4 l4.length 0 (-1) (by omega)
          rw [h1] at H
          exact E.succ (fun k => by simp only [gstate_Sound.j0]; rw [if_neg (by decide)]; rfl) H
        · rw [decide_eq_false (show ¬ (l0.length ≤ 4096 ∧ l1.length = l0.length ∧ l2.length = l0.length ∧ l3.length = l0.length) from fun x => h4 x.1), Bool.false_and, decide_eq_true (show (l0.length : Int) > 4096 by omega)]
          exact gsound_bad ..
      · rw [decide_eq_false (fun x => h3 x.2.2.2), Bool.false_and]
        exact E.congr (fun k => by unfold gstate_Sound.f; rw [if_pos (by omega), if_pos (by omega), if_neg (by omega)]) (gsound_bad l0 l1 l2 l3 l4 _)
    · rw [decide_eq_false (fun x => h2 x.2.2.1), Bool.false_and]
      exact E.congr (fun k => by unfold gstate_Sound.f; rw [if_pos (by omega), if_neg (by omega)]) (gsound_bad l0 l1 l2 l3 l4 _)
  · rw [decide_eq_false (fun x => h1 x.2.1), Bool.false_and]
    exact E.congr (fun k => by unfold gstate_Sound.f; rw [if_neg (by omega)]) (gsound_bad l0 l1 l2 l3 l4 _)

theorem rsound_pts (l0 l1 : List S43) (l2 l3 : List Bool) (l4 : List Int) (hb0 : l0.length ≤ 4096) (hb1 : l1.length = l0.length) : ∀ d i, i + d = l0.length →
    E (fun k => serifref09_Sound.l1 k (l0.length : Int) (i : Int) l0 l1 l2 l3 l4) (both l0 l1 d i)
  | 0, i, h => E.one (fun k => by
      simp only [serifref09_Sound.l1]
      rw [if_neg (by omega)]
      rfl)
  | d + 1, i, h => by
    have f0 : serifref01_Fix.f (rd_T43 l0 (i : Int)).f0 = some (fixB (l0.getD i z43).f0) := by rw [rdT]; exact fix_f _
    have f1 : serifref01_Fix.f (rd_T43 l0 (i : Int)).f1 = some (fixB (l0.getD i z43).f1) := by rw [rdT]; exact fix_f _
    have f2 : serifref01_Fix.f (rd_T43 l1 (i : Int)).f0 = some (fixB (l1.getD i z43).f0) := by rw [rdT]; exact fix_f _
    have f3 : serifref01_Fix.f (rd_T43 l1 (i : Int)).f1 = some (fixB (l1.getD i z43).f1) := by rw [rdT]; exact fix_f _
    have ih := rsound_pts l0 l1 l2 l3 l4 hb0 hb1 d (i + 1) (by omega)
    have un : ∀ k, serifref09_Sound.l1 (k + 1) (l0.length : Int) (i : Int) l0 l1 l2 l3 l4 = if fixB (l0.getD i z43).f0 = true then (if fixB (l0.getD i z43).f1 = true then (if fixB (l1.getD i z43).f0 = true then (if fixB (l1.getD i z43).f1 = true then serifref09_Sound.l1 k (l0.length : Int) ((i + 1 : Nat) : Int) l0 l1 l2 l3 l4 else some false) else some false) else some false) else some false := by
      intro k
      simp only [serifref09_Sound.l1]
      rw [if_pos (by omega), if_pos (by omega), if_pos (by omega), if_pos (by omega), f0, f1, f2, f3, wn (by omega)]
      rfl
    rw [both]
    unfold okS
    cases a0 : fixB (l0.getD i z43).f0 with
    | false => exact E.one (fun k => by rw [un, a0, if_neg (by decide)]; rfl)
    | true =>
      cases a1 : fixB (l0.getD i z43).f1 with
      | false => exact E.one (fun k => by rw [un, a0, a1, if_pos rfl, if_neg (by decide)]; rfl)
      | true =>
        cases a2 : fixB (l1.getD i z43).f0 with
        | false => exact E.one (fun k => by rw [un, a0, a1, a2, if_pos rfl, if_pos rfl, if_neg (by decide)]; rfl)
        | true =>
          cases a3 : fixB (l1.getD i z43).f1 with
          | false => exact E.one (fun k => by rw [un, a0, a1, a2, a3, if_pos rfl, if_pos rfl, if_pos rfl, if_neg (by decide)]; rfl)
          | true =>
            simp only [Bool.true_and]
            exact E.succ (fun k => by rw [un, a0, a1, a2, a3, if_pos rfl, if_pos rfl, if_pos rfl, if_pos rfl]) ih

theorem rsound_loop (l0 l1 : List S43) (l2 l3 : List Bool) (l4 : List Int) (hb0 : l0.length ≤ 4096) (hb1 : l1.length = l0.length) (hb4 : l4.length ≤ 17592186044416) : ∀ d i, i + d = l4.length →
    E (fun k => serifref09_Sound.l0 k (l0.length : Int) l4 (l4.length : Int) (i : Int) l0 l1 l2 l3 l4) (rends (l0.length : Int) l4 d i && both l0 l1 l0.length 0)
  | 0, i, h => by
    rw [rends, Bool.true_and]
    refine E.succ (fun k => ?_) (rsound_pts l0 l1 l2 l3 l4 hb0 hb1 l0.length 0 (by omega))
    simp only [serifref09_Sound.l0]
    rw [if_neg (by omega)]
    rfl
  | d + 1, i, h => by
    have ih := rsound_loop l0 l1 l2 l3 l4 hb0 hb1 hb4 d (i + 1) (by omega)
    rw [rends]
    by_cases e : l4.getD i 0 < 0
    · rw [if_pos e, Bool.false_and]
      refine E.one (fun k => ?_)
      simp only [serifref09_Sound.l0]
      rw [if_pos (by omega), if_pos (by omega), if_pos (by omega), rd_nat, if_pos e]
    · rw [if_neg e]
      by_cases e2 : l4.getD i 0 ≥ (l0.length : Int)
      · rw [if_pos e2, Bool.false_and]
        refine E.one (fun k => ?_)
        simp only [serifref09_Sound.l0]
        rw [if_pos (by omega), if_pos (by omega), if_pos (by omega), rd_nat, if_neg e, if_pos e2]
      · rw [if_neg e2]
        by_cases hi : 0 < i
        · rw [if_pos hi]
          by_cases e3 : l4.getD i 0 ≤ l4.getD (i - 1) 0
          · rw [if_pos e3, Bool.false_and]
            refine E.one (fun k => ?_)
            simp only [serifref09_Sound.l0]
            rw [if_pos (by omega), if_pos (by omega), if_pos (by omega), rd_nat, if_neg e, if_neg e2, if_pos (by omega), wp hi (by omega), if_pos (by omega), if_pos (by omega), rd_nat, if_pos e3]
          · rw [if_neg e3]
            refine E.succ (fun k => ?_) ih
            simp only [serifref09_Sound.l0]
            rw [if_pos (by omega), if_pos (by omega), if_pos (by omega), rd_nat, if_neg e, if_neg e2, if_pos (by omega), wp hi (by omega), if_pos (by omega), if_pos (by omega), rd_nat, if_neg e3, wn (by omega)]
        · rw [if_neg hi]
          refine E.succ (fun k => ?_) ih
          simp only [serifref09_Sound.l0]
          rw [if_pos (by omega), if_pos (by omega), if_pos (by omega), rd_nat, if_neg e, if_neg e2, if_neg (by omega), wn (by omega)]

theorem rsound_bad (l0 l1 : List S43) (l2 l3 : List Bool) (l4 : List Int) (n : Int) : E (fun k => serifref09_Sound.j0 k n true l0 l1 l2 l3 l4) false := E.one (fun k => by simp only [serifref09_Sound.j0]; rw [if_pos trivial])

theorem rsound (l0 l1 : List S43) (l2 l3 : List Bool) (l4 : List Int) (hb4 : l4.length ≤ 17592186044416) : E (fun k => serifref09_Sound.f k l0 l1 l2 l3 l4) (soundB l0 l1 l2 l3 l4) := by
  unfold soundB
  by_cases h4 : l0.length ≤ 4096
  · by_cases h1 : l1.length = l0.length
    · by_cases h2 : l2.length = l0.length
      · refine E.congr (h := fun k => serifref09_Sound.j0 k (l0.length : Int) ((l3.length : Int) != (l0.length : Int)) l0 l1 l2 l3 l4) (fun k => by unfold serifref09_Sound.f; rw [if_neg (by omega), if_pos (by omega), if_pos (by omega)]) ?_
        by_cases h3 : l3.length = l0.length
        · rw [decide_eq_true (⟨h4, h1, h2, h3⟩ : l0.length ≤ 4096 ∧ l1.length = l0.length ∧ l2.length = l0.length ∧ l3.length = l0.length), Bool.true_and, bne_eq_false_iff_eq.2 (show (l3.length : Int) = (l0.length : Int) by omega)]
          exact E.succ (fun k => by simp only [serifref09_Sound.j0]; rw [if_neg (by decide)]; rfl) (rsound_loop l0 l1 l2 l3 l4 h4 h1 hb4 l4.length 0 (by omega))
        · rw [decide_eq_false (fun x => h3 x.2.2.2), Bool.false_and, bne_iff_ne.2 (show (l3.length : Int) ≠ (l0.length : Int) by omega)]
          exact rsound_bad ..
      · rw [decide_eq_false (fun x => h2 x.2.2.1), Bool.false_and]
        exact E.congr (fun k => by unfold serifref09_Sound.f; rw [if_neg (by omega), if_pos (by omega), if_neg (by omega)]) (rsound_bad l0 l1 l2 l3 l4 _)
    · rw [decide_eq_false (fun x => h1 x.2.1), Bool.false_and]
      exact E.congr (fun k => by unfold serifref09_Sound.f; rw [if_neg (by omega), if_neg (by omega)]) (rsound_bad l0 l1 l2 l3 l4 _)
  · rw [decide_eq_false (show ¬ (l0.length ≤ 4096 ∧ l1.length = l0.length ∧ l2.length = l0.length ∧ l3.length = l0.length) from fun x => h4 x.1), Bool.false_and]
    exact E.congr (fun k => by unfold serifref09_Sound.f; rw [if_pos (by omega)]) (rsound_bad l0 l1 l2 l3 l4 _)

theorem sound_len {l0 l1 : List S43} {l2 l3 : List Bool} {l4 : List Int} (h : soundB l0 l1 l2 l3 l4 = true) : l1.length = l0.length ∧ l2.length = l0.length ∧ l3.length = l0.length := by
  unfold soundB at h
  rw [Bool.and_eq_true] at h
  exact (of_decide_eq_true h.1).2

/-- What Put answers. -/
def putR (l0 l1 : List S43) (l2 l3 : List Bool) (l4 : List Int) (a b c : Int) : List S43 × List S43 × List Bool × List Bool × List Int × Int :=
  if soundB l0 l1 l2 l3 l4 = true ∧ (a = 0 ∨ a = 1) ∧ 0 ≤ b ∧ b < (l0.length : Int) then
    if fixB c = true then
      if a = 0 then (l0, l1.set b.toNat ⟨c, (rd_T43 l1 b).f1⟩, l2.set b.toNat true, l3, l4, 0) else (l0, l1.set b.toNat ⟨(rd_T43 l1 b).f0, c⟩, l2, l3.set b.toNat true, l4, 0)
    else ([], [], [], [], [], 94)
  else ([], [], [], [], [], 91)

theorem copied_f (l0 l1 : List S43) (l2 l3 : List Bool) (l4 : List Int) (b0 : l0.length < 8796093022208) (b1 : l1.length < 8796093022208) (b2 : l2.length < 140737488355328) (b3 : l3.length < 140737488355328) (b4 : l4.length < 17592186044416) :
    gstate_copied.f l0 l1 l2 l3 l4 = some (l0, l1, l2, l3, l4) := by
  unfold gstate_copied.f api_Spot_48.f slices_Clone_bool_bool.f slices_Clone_int_int.f
  simp [b0, b1, b2, b3, b4]
theorem copy_f (l0 l1 : List S43) (l2 l3 : List Bool) (l4 : List Int) (b0 : l0.length < 8796093022208) (b1 : l1.length < 8796093022208) (b2 : l2.length < 140737488355328) (b3 : l3.length < 140737488355328) (b4 : l4.length < 17592186044416) :
    serifref09_Copy.f l0 l1 l2 l3 l4 = some (l0, l1, l2, l3, l4) := by
  unfold serifref09_Copy.f
  simp only [List.length_nil, Nat.zero_add, List.nil_append]
  rw [if_pos b0, if_pos b1, if_pos b2, if_pos b3, if_pos b4]

theorem gput_bad (l0 l1 : List S43) (l2 l3 : List Bool) (l4 : List Int) (x b c : Int) : E (fun k => gstate_Put.j0 k b c true l0 l1 l2 l3 l4 x) ([], [], [], [], [], 91) := E.one (fun k => by simp only [gstate_Put.j0]; rw [if_pos trivial])

theorem gput_j (l0 l1 : List S43) (l2 l3 : List Bool) (l4 : List Int) (a b c : Int) (hs : soundB l0 l1 l2 l3 l4 = true) (ha : a = 0 ∨ a = 1) (hb0 : 0 ≤ b) :
    E (fun k => gstate_Put.j0 k b c (decide (b ≥ (l0.length : Int))) l0 l1 l2 l3 l4 a) (putR l0 l1 l2 l3 l4 a b c) := by
  obtain ⟨e1, e2, e3⟩ := sound_len hs
  unfold putR
  by_cases hb : b < (l0.length : Int)
  · rw [if_pos ⟨hs, ha, hb0, hb⟩, decide_eq_false (show ¬ b ≥ (l0.length : Int) by omega)]
    refine E.one (fun k => ?_)
    simp only [gstate_Put.j0]
    rw [if_neg (by decide), check_f]
    by_cases hc : fixB c = true
    · rw [if_pos hc, if_pos hc]
      simp only [Option.bind_some]
      rw [if_pos trivial]
      unfold gstate_side_at.f gstate_side_touched.f
      by_cases h0 : a = 0
      · simp only [if_pos h0, if_pos hb0, Option.bind_some]
        rw [if_pos (by omega)]
        simp only [Option.bind_some]
        rw [if_pos (by omega), if_pos (by omega)]
      · simp only [if_neg h0, if_pos hb0, Option.bind_some]
        rw [if_pos (by omega)]
        simp only [Option.bind_some]
        rw [if_pos (by omega), if_pos (by omega)]
    · rw [if_neg hc, if_neg hc]
      simp only [Option.bind_some]
      rw [if_neg (by decide)]
  · rw [if_neg (fun x => hb x.2.2.2), decide_eq_true (show b ≥ (l0.length : Int) by omega)]
    exact gput_bad ..

theorem gput (l0 l1 : List S43) (l2 l3 : List Bool) (l4 : List Int) (a b c : Int) (b0 : l0.length < 8796093022208) (b1 : l1.length < 8796093022208) (b2 : l2.length < 140737488355328) (b3 : l3.length < 140737488355328) (b4 : l4.length < 17592186044416) :
    E (fun k => gstate_Put.f k l0 l1 l2 l3 l4 a b c) (putR l0 l1 l2 l3 l4 a b c) := by
  have hS := gsound l0 l1 l2 l3 l4 (by omega)
  have hcp := copied_f l0 l1 l2 l3 l4 b0 b1 b2 b3 b4
  have key : E (fun k => gstate_begun.f k l0 l1 l2 l3 l4 a) (if soundB l0 l1 l2 l3 l4 = true ∧ (a = 0 ∨ a = 1) then (l0, l1, l2, l3, l4, a, true) else ([], [], [], [], [], 0, false)) := by
    refine E.congr (h := fun k => (gstate_Sound.f k l0 l1 l2 l3 l4).bind fun t => if t = true then (if a = 0 then some (l0, l1, l2, l3, l4, a, true) else if a = 1 then some (l0, l1, l2, l3, l4, a, true) else some ([], [], [], [], [], 0, false)) else some ([], [], [], [], [], 0, false)) (fun k => by unfold gstate_begun.f; rw [hcp]; rfl) ?_
    refine E.bind (h := fun _ t => if t = true then (if a = 0 then some (l0, l1, l2, l3, l4, a, true) else if a = 1 then some (l0, l1, l2, l3, l4, a, true) else some ([], [], [], [], [], 0, false)) else some ([], [], [], [], [], 0, false)) hS ?_
    by_cases hs : soundB l0 l1 l2 l3 l4 = true
    · by_cases h0 : a = 0
      · exact ⟨0, fun _ _ => by simp [hs, h0]⟩
      · by_cases h1 : a = 1
        · exact ⟨0, fun _ _ => by simp [hs, h1]⟩
        · exact ⟨0, fun _ _ => by simp [hs, h0, h1]⟩
    · exact ⟨0, fun _ _ => by simp [hs]⟩
  refine E.bind (g := fun k => gstate_begun.f k l0 l1 l2 l3 l4 a) (h := fun k bt => if bt.2.2.2.2.2.2 = true then (if b < 0 then (gstate_Put.j0 k b c true bt.1 bt.2.1 bt.2.2.1 bt.2.2.2.1 bt.2.2.2.2.1 bt.2.2.2.2.2.1) else (gstate_Put.j0 k b c (decide (b ≥ (l0.length : Int))) bt.1 bt.2.1 bt.2.2.1 bt.2.2.2.1 bt.2.2.2.2.1 bt.2.2.2.2.2.1)) else (gstate_Put.j0 k b c true bt.1 bt.2.1 bt.2.2.1 bt.2.2.2.1 bt.2.2.2.2.1 bt.2.2.2.2.2.1)) key ?_
  by_cases hs : soundB l0 l1 l2 l3 l4 = true ∧ (a = 0 ∨ a = 1)
  · rw [if_pos hs]
    by_cases hb : b < 0
    · rw [show putR l0 l1 l2 l3 l4 a b c = ([], [], [], [], [], 91) by unfold putR; rw [if_neg (fun x => by omega)]]
      exact E.congr (fun k => by simp only [if_pos hb]; rfl) (gput_bad l0 l1 l2 l3 l4 a b c)
    · exact E.congr (fun k => by simp only [if_neg hb]; rfl) (gput_j l0 l1 l2 l3 l4 a b c hs.1 hs.2 (by omega))
  · rw [if_neg hs, show putR l0 l1 l2 l3 l4 a b c = ([], [], [], [], [], 91) by unfold putR; rw [if_neg (fun x => hs ⟨x.1, x.2.1⟩)]]
    exact E.congr (fun k => by rfl) (gput_bad [] [] [] [] [] 0 b c)

theorem rput_bad (l0 l1 : List S43) (l2 l3 : List Bool) (l4 : List Int) (a b c : Int) : E (fun k => serifref09_Put.j0 k a b c true l0 l1 l2 l3 l4) ([], [], [], [], [], 91) := E.one (fun k => by simp only [serifref09_Put.j0]; rw [if_pos trivial])

theorem rput (l0 l1 : List S43) (l2 l3 : List Bool) (l4 : List Int) (a b c : Int) (b0 : l0.length < 8796093022208) (b1 : l1.length < 8796093022208) (b2 : l2.length < 140737488355328) (b3 : l3.length < 140737488355328) (b4 : l4.length < 17592186044416) :
    E (fun k => serifref09_Put.f k l0 l1 l2 l3 l4 a b c) (putR l0 l1 l2 l3 l4 a b c) := by
  have hS := rsound l0 l1 l2 l3 l4 (by omega)
  have hcp := copy_f l0 l1 l2 l3 l4 b0 b1 b2 b3 b4
  refine E.bind (g := fun k => serifref09_Sound.f k l0 l1 l2 l3 l4) (h := fun k t => if t = true then (if a < 0 then (serifref09_Put.j0 k a b c true l0 l1 l2 l3 l4) else (if a > 1 then (serifref09_Put.j0 k a b c true l0 l1 l2 l3 l4) else (if b < 0 then (serifref09_Put.j0 k a b c true l0 l1 l2 l3 l4) else (serifref09_Put.j0 k a b c (decide (b ≥ (l0.length : Int))) l0 l1 l2 l3 l4)))) else (serifref09_Put.j0 k a b c true l0 l1 l2 l3 l4)) hS ?_
  by_cases hs : soundB l0 l1 l2 l3 l4 = true
  · obtain ⟨e1, e2, e3⟩ := sound_len hs
    by_cases ha : a < 0
    · rw [show putR l0 l1 l2 l3 l4 a b c = ([], [], [], [], [], 91) by unfold putR; rw [if_neg (fun x => by omega)]]
      exact E.congr (fun k => by rw [if_pos hs, if_pos ha]) (rput_bad l0 l1 l2 l3 l4 a b c)
    · by_cases ha1 : a > 1
      · rw [show putR l0 l1 l2 l3 l4 a b c = ([], [], [], [], [], 91) by unfold putR; rw [if_neg (fun x => by omega)]]
        exact E.congr (fun k => by rw [if_pos hs, if_neg ha, if_pos ha1]) (rput_bad l0 l1 l2 l3 l4 a b c)
      · by_cases hb : b < 0
        · rw [show putR l0 l1 l2 l3 l4 a b c = ([], [], [], [], [], 91) by unfold putR; rw [if_neg (fun x => by omega)]]
          exact E.congr (fun k => by rw [if_pos hs, if_neg ha, if_neg ha1, if_pos hb]) (rput_bad l0 l1 l2 l3 l4 a b c)
        · refine E.congr (h := fun k => serifref09_Put.j0 k a b c (decide (b ≥ (l0.length : Int))) l0 l1 l2 l3 l4) (fun k => by rw [if_pos hs, if_neg ha, if_neg ha1, if_neg hb]) ?_
          by_cases hb2 : b < (l0.length : Int)
          · unfold putR
            rw [if_pos ⟨hs, by omega, by omega, hb2⟩, decide_eq_false (show ¬ b ≥ (l0.length : Int) by omega)]
            refine E.one (fun k => ?_)
            simp only [serifref09_Put.j0]
            rw [if_neg (by decide), fix_f]
            by_cases hc : fixB c = true
            · rw [if_pos hc]
              simp only [Option.bind_some]
              rw [if_pos hc, hcp]
              simp only [Option.bind_some]
              rw [if_pos (by omega), if_pos (by omega)]
              unfold serifref09_Set.f
              by_cases h0 : a = 0
              · simp only [if_pos h0, Option.bind_some]
                rw [if_pos (by omega)]
              · simp only [if_neg h0, Option.bind_some]
                rw [if_pos (by omega)]
            · rw [if_neg hc]
              simp only [Option.bind_some]
              rw [if_neg hc]
          · rw [show putR l0 l1 l2 l3 l4 a b c = ([], [], [], [], [], 91) by unfold putR; rw [if_neg (fun x => hb2 x.2.2.2)], decide_eq_true (show b ≥ (l0.length : Int) by omega)]
            exact rput_bad ..
  · rw [show putR l0 l1 l2 l3 l4 a b c = ([], [], [], [], [], 91) by unfold putR; rw [if_neg (fun x => hs x.1)]]
    exact E.congr (fun k => by rw [if_neg hs]) (rput_bad l0 l1 l2 l3 l4 a b c)

theorem spots_loop (l : List S43) (hb : l.length < 9000000000000000000) : ∀ d i, i + d = l.length → E (fun k => serifref09_sameSpots.l0 k l l (l.length : Int) (i : Int)) true
  | 0, i, h => E.one (fun k => by
      simp only [serifref09_sameSpots.l0]
      rw [if_neg (by omega)])
  | d + 1, i, h => by
    refine E.succ (fun k => ?_) (spots_loop l hb d (i + 1) (by omega))
    simp only [serifref09_sameSpots.l0]
    rw [if_pos (by omega), if_pos (by omega), if_pos (by omega), if_pos (by omega), if_neg (by simp), wn (by omega)]
theorem bools_loop (l : List Bool) (hb : l.length < 9000000000000000000) : ∀ d i, i + d = l.length → E (fun k => serifref09_sameBools.l0 k l l (l.length : Int) (i : Int)) true
  | 0, i, h => E.one (fun k => by
      simp only [serifref09_sameBools.l0]
      rw [if_neg (by omega)])
  | d + 1, i, h => by
    refine E.succ (fun k => ?_) (bools_loop l hb d (i + 1) (by omega))
    simp only [serifref09_sameBools.l0]
    rw [if_pos (by omega), if_pos (by omega), if_pos (by omega), if_pos (by omega), if_neg (by simp), wn (by omega)]
theorem ints_loop (l : List Int) (hb : l.length < 9000000000000000000) : ∀ d i, i + d = l.length → E (fun k => serifref02_SameInts.l0 k l l (l.length : Int) (i : Int)) true
  | 0, i, h => E.one (fun k => by
      simp only [serifref02_SameInts.l0]
      rw [if_neg (by omega)])
  | d + 1, i, h => by
    refine E.succ (fun k => ?_) (ints_loop l hb d (i + 1) (by omega))
    simp only [serifref02_SameInts.l0]
    rw [if_pos (by omega), if_pos (by omega), if_pos (by omega), if_pos (by omega), if_pos trivial, wn (by omega)]
theorem spots_f (l : List S43) (hb : l.length < 9000000000000000000) : E (fun k => serifref09_sameSpots.f k l l) true :=
  E.congr (fun k => by unfold serifref09_sameSpots.f; rw [if_pos rfl]; rfl) (spots_loop l hb l.length 0 (by omega))
theorem bools_f (l : List Bool) (hb : l.length < 9000000000000000000) : E (fun k => serifref09_sameBools.f k l l) true :=
  E.congr (fun k => by unfold serifref09_sameBools.f; rw [if_pos rfl]; rfl) (bools_loop l hb l.length 0 (by omega))
theorem ints_f (l : List Int) (hb : l.length < 9000000000000000000) : E (fun k => serifref02_SameInts.f k l l) true :=
  E.congr (fun k => by unfold serifref02_SameInts.f; rw [if_pos rfl]; rfl) (ints_loop l hb l.length 0 (by omega))
theorem E.then {β : Type} {g : Nat → Option Bool} {h : Nat → Option β} {f : Option β} {s : β} (H : E g true) (H2 : E h s) : E (fun k => (g k).bind fun t => if t = true then h k else f) s :=
  E.bind (h := fun k t => if t = true then h k else f) H (E.congr (fun k => by rw [if_pos rfl]) H2)
theorem same_f (l0 l1 : List S43) (l2 l3 : List Bool) (l4 : List Int) (b0 : l0.length < 9000000000000000000) (b1 : l1.length < 9000000000000000000) (b2 : l2.length < 9000000000000000000) (b3 : l3.length < 9000000000000000000) (b4 : l4.length < 9000000000000000000) :
    E (fun k => serifref09_Same.f k l0 l1 l2 l3 l4 l0 l1 l2 l3 l4) true :=
  E.then (spots_f l0 b0) (E.then (spots_f l1 b1) (E.then (bools_f l2 b2) (E.then (bools_f l3 b3) (E.bind (h := fun _ t => some t) (ints_f l4 b4) E.of))))

theorem putR_len (l0 l1 : List S43) (l2 l3 : List Bool) (l4 : List Int) (a b c : Int) :
    (putR l0 l1 l2 l3 l4 a b c).1.length ≤ l0.length ∧ (putR l0 l1 l2 l3 l4 a b c).2.1.length ≤ l1.length ∧ (putR l0 l1 l2 l3 l4 a b c).2.2.1.length ≤ l2.length ∧ (putR l0 l1 l2 l3 l4 a b c).2.2.2.1.length ≤ l3.length ∧ (putR l0 l1 l2 l3 l4 a b c).2.2.2.2.1.length ≤ l4.length := by
  unfold putR
  split
  · split
    · split <;> simp
    · simp
  · simp

theorem GstatePuts (l0 l1 : List S43) (l2 l3 : List Bool) (l4 : List Int) (a b c : Int) (b0 : l0.length * 16 ≤ 140737488351232) (b1 : l1.length * 16 ≤ 140737488351232) (b2 : l2.length * 1 ≤ 140737488351232) (b3 : l3.length * 1 ≤ 140737488351232) (b4 : l4.length * 8 ≤ 140737488351232) :
    ∃ k, seriflaw09_GstatePuts.f k l0 l1 l2 l3 l4 a b c = some true := by
  have hcp := copy_f l0 l1 l2 l3 l4 (by omega) (by omega) (by omega) (by omega) (by omega)
  have hG := gput l0 l1 l2 l3 l4 a b c (by omega) (by omega) (by omega) (by omega) (by omega)
  have hR := rput l0 l1 l2 l3 l4 a b c (by omega) (by omega) (by omega) (by omega) (by omega)
  obtain ⟨p0, p1, p2, p3, p4⟩ := putR_len l0 l1 l2 l3 l4 a b c
  have hS1 := same_f (putR l0 l1 l2 l3 l4 a b c).1 (putR l0 l1 l2 l3 l4 a b c).2.1 (putR l0 l1 l2 l3 l4 a b c).2.2.1 (putR l0 l1 l2 l3 l4 a b c).2.2.2.1 (putR l0 l1 l2 l3 l4 a b c).2.2.2.2.1 (by omega) (by omega) (by omega) (by omega) (by omega)
  have hS2 := same_f l0 l1 l2 l3 l4 (by omega) (by omega) (by omega) (by omega) (by omega)
  refine E.ex ?_
  refine E.congr (h := fun k => (serifref09_Put.f k l0 l1 l2 l3 l4 a b c).bind fun bt => (gstate_Put.f k l0 l1 l2 l3 l4 a b c).bind fun bu => if bu.2.2.2.2.2 = bt.2.2.2.2.2 then ((serifref09_Same.f k bu.1 bu.2.1 bu.2.2.1 bu.2.2.2.1 bu.2.2.2.2.1 bt.1 bt.2.1 bt.2.2.1 bt.2.2.2.1 bt.2.2.2.2.1).bind fun t => if t = true then ((serifref09_Same.f k l0 l1 l2 l3 l4 l0 l1 l2 l3 l4).bind fun u => some u) else some false) else some false) (fun k => by
    unfold seriflaw09_GstatePuts.f seriflaw09_gstateAlive.f
    simp only [Option.bind_some]
    rw [if_pos trivial, hcp]
    rfl) ?_
  refine E.bind hR (E.bind hG ?_)
  refine E.congr (fun k => by rw [if_pos rfl]) ?_
  exact E.then hS1 (E.bind (h := fun _ u => some u) hS2 E.of)
end Go.Proofs.Ytneiaobhjjbedaa.Pure
