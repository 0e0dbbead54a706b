/- The pure statement of GstateZones, of outlines and zones of bulk at most 1048576: both layers tell the same zones and outlines. -/
import Derived.Test.YtneiaobhjjbedaaPGstateZonesx8
namespace Go.Proofs.Ytneiaobhjjbedaa.Pure2
open Go.RowKit Go.Proofs.Ytneiaobhjjbedaa.PGstateZones Go.Proofs.YtneiaobhjjbedaaW.PrintWords Go.Proofs.YtneiaobhjjbedaaW.PrintLast Go.Proofs.YtneiaobhjjbedaaW.PrintMore
set_option linter.unusedVariables false
set_option linter.unusedSimpArgs false

/-- With rounds enough the answer is r. -/
def E {α : Type} (g : Nat → Option α) (r : α) : Prop := ∃ K, ∀ k, K ≤ k → g k = some r
theorem E.of {α : Type} {r : α} : E (fun _ => some r) r := ⟨0, fun _ _ => rfl⟩
theorem E.one {α : Type} {g : Nat → Option α} {r : α} (e : ∀ k, g (k + 1) = some r) : E g r := by
  refine ⟨1, fun k hk => ?_⟩
  obtain ⟨m, rfl⟩ : ∃ m, k = m + 1 := ⟨k - 1, by omega⟩
  exact e m
theorem E.succ {α : Type} {g h : Nat → Option α} {r : α} (e : ∀ k, g (k + 1) = h k) (H : E h r) : E g r := by
  obtain ⟨K, hK⟩ := H
  refine ⟨K + 1, fun k hk => ?_⟩
  obtain ⟨m, rfl⟩ : ∃ m, k = m + 1 := ⟨k - 1, by omega⟩
  rw [e]; exact hK m (by omega)
theorem E.congr {α : Type} {g h : Nat → Option α} {r : α} (e : ∀ k, g k = h k) (H : E h r) : E g r := by
  obtain ⟨K, hK⟩ := H
  exact ⟨K, fun k hk => (e k).trans (hK k hk)⟩
theorem E.bind {α β : Type} {g : Nat → Option α} {r : α} {h : Nat → α → Option β} {s : β} (H : E g r) (H2 : E (fun k => h k r) s) : E (fun k => (g k).bind (h k)) s := by
  obtain ⟨K, hK⟩ := H
  obtain ⟨L, hL⟩ := H2
  exact ⟨K + L, fun k hk => by simp only [hK k (by omega), Option.bind_some]; exact hL k (by omega)⟩
theorem E.ex {α : Type} {g : Nat → Option α} {r : α} (H : E g r) : ∃ k, g k = some r := by
  obtain ⟨K, hK⟩ := H
  exact ⟨K, hK K (Nat.le_refl _)⟩
theorem wn {i : Nat} (h : i < 9000000000000000000) : wrap64 ((i : Int) + 1) = ((i + 1 : Nat) : Int) := by
  unfold wrap64
  omega
theorem wp {i : Nat} (h0 : 0 < i) (h : i < 9000000000000000000) : wrap64 ((i : Int) - 1) = ((i - 1 : Nat) : Int) := by
  unfold wrap64
  omega
theorem rd_nat (l : List Int) (b : Nat) : rd l (b : Int) = l.getD b 0 := by simp [rd]
theorem rdT (l : List S43) (i : Nat) : rd_T43 l (i : Int) = l.getD i z43 := by simp [rd_T43]

def fixB (n : Int) : Bool := decide (-2147483647 ≤ n ∧ n ≤ 2147483647)
theorem check_f (n : Int) : fixed_Check.f n = some (if fixB n = true then 0 else 14) := by
  unfold fixed_Check.f fixB
  by_cases h1 : n < -2147483647
  · rw [if_pos h1, if_neg (by rw [decide_eq_true_eq]; omega)]
  · rw [if_neg h1]
    by_cases h2 : n > 2147483647
    · rw [if_pos h2, if_neg (by rw [decide_eq_true_eq]; omega)]
    · rw [if_neg h2, if_pos (by rw [decide_eq_true_eq]; omega)]
theorem fix_f (n : Int) : serifref01_Fix.f n = some (fixB n) := by
  unfold serifref01_Fix.f fixB
  by_cases h : n ≥ -2147483647
  · rw [if_pos h]
    exact congrArg some (decide_eq_decide.2 ⟨fun x => ⟨h, x⟩, fun x => x.2⟩)
  · rw [if_neg h]
    exact congrArg some (decide_eq_false (fun x => h x.1)).symm
def okS (s : S43) : Bool := fixB s.f0 && fixB s.f1
theorem odd_f (s : S43) : gstate_Sound_1.f s.f0 s.f1 = some (!okS s) := by
  unfold gstate_Sound_1.f gstate_fits.f okS
  rw [check_f, check_f]
  cases fixB s.f0 <;> cases fixB s.f1 <;> rfl

def idx (l : List S43) : Nat → Nat → Int
  | 0, _ => -1
  | d + 1, i => if okS (l.getD i z43) = true then idx l d (i + 1) else (i : Int)
def allOk (l : List S43) : Nat → Nat → Bool
  | 0, _ => true
  | d + 1, i => okS (l.getD i z43) && allOk l d (i + 1)
theorem idx_ge (l : List S43) : ∀ d i, decide (idx l d i ≥ 0) = !allOk l d i
  | 0, i => rfl
  | d + 1, i => by
    rw [idx, allOk]
    by_cases h : okS (l.getD i z43) = true
    · rw [if_pos h, h, Bool.true_and]
      exact idx_ge l d (i + 1)
    · rw [if_neg h, Bool.eq_false_iff.2 h, Bool.false_and]
      exact decide_eq_true (by omega)
theorem idx_loop (l : List S43) (hb : l.length ≤ 4096) : ∀ d i, i + d = l.length → E (fun k => api_Spot_66.l0 k l (l.length : Int) (i : Int)) (idx l d i)
  | 0, i, h => E.one (fun k => by
      simp only [api_Spot_66.l0]
      rw [if_neg (by omega)]
      rfl)
  | d + 1, i, h => by
    have ih := idx_loop l hb d (i + 1) (by omega)
    have hs : gstate_Sound_1.f (rd_T43 l (i : Int)).f0 (rd_T43 l (i : Int)).f1 = some (!okS (l.getD i z43)) := by rw [rdT]; exact odd_f _
    by_cases ho : okS (l.getD i z43) = true
    · rw [show idx l (d + 1) i = idx l d (i + 1) by rw [idx, if_pos ho]]
      refine E.succ (fun k => ?_) ih
      simp only [api_Spot_66.l0]
      rw [if_pos (by omega), if_pos (by omega), if_pos (by omega), hs, ho]
      simp only [Option.bind_some, Bool.not_true]
      rw [if_neg (by decide), wn (by omega)]
    · rw [show idx l (d + 1) i = (i : Int) by rw [idx, if_neg ho]]
      refine E.one (fun k => ?_)
      simp only [api_Spot_66.l0]
      rw [if_pos (by omega), if_pos (by omega), if_pos (by omega), hs, Bool.eq_false_iff.2 ho]
      simp only [Option.bind_some, Bool.not_false]
      rw [if_pos trivial]
theorem cont (l : List S43) (hb : l.length ≤ 4096) : E (fun k => api_Spot_51.f k l) (!allOk l l.length 0) := by
  rw [← idx_ge]
  exact E.bind (g := fun k => api_Spot_66.f k l) (h := fun _ t => some (decide (t ≥ 0))) (idx_loop l hb l.length 0 (by omega)) E.of

def gends (n : Int) (l : List Int) : Nat → Nat → Int → Bool
  | 0, _, _ => true
  | d + 1, i, last => if l.getD i 0 ≤ last then false else if l.getD i 0 ≥ n then false else gends n l d (i + 1) (l.getD i 0)
def rends (n : Int) (l : List Int) : Nat → Nat → Bool
  | 0, _ => true
  | d + 1, i => if l.getD i 0 < 0 then false else if l.getD i 0 ≥ n then false else if 0 < i then (if l.getD i 0 ≤ l.getD (i - 1) 0 then false else rends n l d (i + 1)) else rends n l d (i + 1)
theorem ends_same (n : Int) (l : List Int) : ∀ d i last, (i = 0 → last = -1) → (0 < i → last = l.getD (i - 1) 0 ∧ 0 ≤ last) → gends n l d i last = rends n l d i
  | 0, i, last, _, _ => rfl
  | d + 1, i, last, h0, h1 => by
    rw [gends, rends]
    rcases Nat.eq_zero_or_pos i with hi | hi
    · have hl := h0 hi
      by_cases e : l.getD i 0 < 0
      · rw [if_pos (by omega), if_pos e]
      · rw [if_neg (by omega), if_neg e]
        by_cases e2 : l.getD i 0 ≥ n
        · rw [if_pos e2, if_pos e2]
        · rw [if_neg e2, if_neg e2, if_neg (by omega)]
          exact ends_same n l d (i + 1) _ (by omega) (fun _ => ⟨rfl, by omega⟩)
    · obtain ⟨hl, hp⟩ := h1 hi
      by_cases e : l.getD i 0 < 0
      · rw [if_pos (by omega), if_pos e]
      · rw [if_neg e]
        by_cases e3 : l.getD i 0 ≤ last
        · rw [if_pos e3]
          by_cases e2 : l.getD i 0 ≥ n
          · rw [if_pos e2]
          · rw [if_neg e2, if_pos hi, if_pos (by omega)]
        · rw [if_neg e3]
          by_cases e2 : l.getD i 0 ≥ n
          · rw [if_pos e2, if_pos e2]
          · rw [if_neg e2, if_neg e2, if_pos hi, if_neg (by omega)]
            exact ends_same n l d (i + 1) _ (by omega) (fun _ => ⟨rfl, by omega⟩)
def both (l0 l1 : List S43) : Nat → Nat → Bool
  | 0, _ => true
  | d + 1, i => okS (l0.getD i z43) && (okS (l1.getD i z43) && both l0 l1 d (i + 1))
theorem both_same (l0 l1 : List S43) : ∀ d i, both l0 l1 d i = (allOk l0 d i && allOk l1 d i)
  | 0, i => rfl
  | d + 1, i => by
    rw [both, allOk, allOk, both_same l0 l1 d (i + 1)]
    cases okS (l0.getD i z43) <;> cases okS (l1.getD i z43) <;> cases allOk l0 d (i + 1) <;> rfl

/-- Is the zone sound? -/
def soundB (l0 l1 : List S43) (l2 l3 : List Bool) (l4 : List Int) : Bool :=
  decide (l0.length ≤ 4096 ∧ l1.length = l0.length ∧ l2.length = l0.length ∧ l3.length = l0.length) && (rends (l0.length : Int) l4 l4.length 0 && both l0 l1 l0.length 0)

theorem gsound_loop (l0 l1 : List S43) (l2 l3 : List Bool) (l4 : List Int) (n : Int) (hb0 : l0.length ≤ 4096) (hb1 : l1.length ≤ 4096) (hb4 : l4.length ≤ 17592186044416) : ∀ d i last, i + d = l4.length →
    E (fun k => gstate_Sound.l0 k n last l4 (l4.length : Int) (i : Int) l0 l1 l2 l3 l4) (gends n l4 d i last && (allOk l0 l0.length 0 && allOk l1 l1.length 0))
  | 0, i, last, h => by
    refine E.succ (h := fun k => (api_Spot_51.f k l0).bind fun t => if t = true then some false else ((api_Spot_51.f k l1).bind fun u => some (!u))) (fun k => ?_) ?_
    · simp only [gstate_Sound.l0]
      rw [if_neg (by omega)]
    · refine E.bind (h := fun k t => if t = true then some false else ((api_Spot_51.f k l1).bind fun u => some (!u))) (cont l0 hb0) ?_
      rw [gends, Bool.true_and]
      cases allOk l0 l0.length 0 with
      | false => exact E.of
      | true =>
        rw [Bool.true_and]
        refine E.congr (h := fun k => (api_Spot_51.f k l1).bind fun u => some (!u)) (fun k => by rw [if_neg (by decide)]) ?_
        have := E.bind (h := fun _ u => some (!u)) (cont l1 hb1) (s := !!allOk l1 l1.length 0) E.of
        rwa [Bool.not_not] at this
  | d + 1, i, last, h => by
    rw [gends]
    by_cases e : l4.getD i 0 ≤ last
    · rw [if_pos e, Bool.false_and]
      refine E.one (fun k => ?_)
      simp only [gstate_Sound.l0]
      rw [if_pos (by omega), if_pos (by omega), if_pos (by omega), rd_nat, if_pos e]
    · rw [if_neg e]
      by_cases e2 : l4.getD i 0 ≥ n
      · rw [if_pos e2, Bool.false_and]
        refine E.one (fun k => ?_)
        simp only [gstate_Sound.l0]
        rw [if_pos (by omega), if_pos (by omega), if_pos (by omega), rd_nat, if_neg e, if_pos e2]
      · rw [if_neg e2]
        refine E.succ (fun k => ?_) (gsound_loop l0 l1 l2 l3 l4 n hb0 hb1 hb4 d (i + 1) (l4.getD i 0) (by omega))
        simp only [gstate_Sound.l0]
        rw [if_pos (by omega), if_pos (by omega), if_pos (by omega), rd_nat, if_neg e, if_neg e2, wn (by omega)]

theorem gsound_bad (l0 l1 : List S43) (l2 l3 : List Bool) (l4 : List Int) (n : Int) : E (fun k => gstate_Sound.j0 k n true l0 l1 l2 l3 l4) false := E.one (fun k => by simp only [gstate_Sound.j0]; rw [if_pos trivial])

theorem gsound (l0 l1 : List S43) (l2 l3 : List Bool) (l4 : List Int) (hb4 : l4.length ≤ 17592186044416) : E (fun k => gstate_Sound.f k l0 l1 l2 l3 l4) (soundB l0 l1 l2 l3 l4) := by
  unfold soundB
  by_cases h1 : l1.length = l0.length
  · by_cases h2 : l2.length = l0.length
    · by_cases h3 : l3.length = l0.length
      · refine E.congr (h := fun k => gstate_Sound.j0 k (l0.length : Int) (decide ((l0.length : Int) > 4096)) l0 l1 l2 l3 l4) (fun k => by unfold gstate_Sound.f; rw [if_pos (by omega), if_pos (by omega), if_pos (by omega)]) ?_
        by_cases h4 : l0.length ≤ 4096
        · rw [decide_eq_true (⟨h4, h1, h2, h3⟩ : l0.length ≤ 4096 ∧ l1.length = l0.length ∧ l2.length = l0.length ∧ l3.length = l0.length), Bool.true_and, both_same, ← ends_same (l0.length : Int) l4 l4.length 0 (-1) (fun _ => rfl) (fun h => by omega), decide_eq_false (show ¬ (l0.length : Int) > 4096 by omega)]
          have H := gsound_loop l0 l1 l2 l3 l4 (l0.length : Int) h4 (by omega) hb4 l4.length 0 (-1) (by omega)
          rw [h1] at H
          exact E.succ (fun k => by simp only [gstate_Sound.j0]; rw [if_neg (by decide)]; rfl) H
        · rw [decide_eq_false (show ¬ (l0.length ≤ 4096 ∧ l1.length = l0.length ∧ l2.length = l0.length ∧ l3.length = l0.length) from fun x => h4 x.1), Bool.false_and, decide_eq_true (show (l0.length : Int) > 4096 by omega)]
          exact gsound_bad ..
      · rw [decide_eq_false (fun x => h3 x.2.2.2), Bool.false_and]
        exact E.congr (fun k => by unfold gstate_Sound.f; rw [if_pos (by omega), if_pos (by omega), if_neg (by omega)]) (gsound_bad l0 l1 l2 l3 l4 _)
    · rw [decide_eq_false (fun x => h2 x.2.2.1), Bool.false_and]
      exact E.congr (fun k => by unfold gstate_Sound.f; rw [if_pos (by omega), if_neg (by omega)]) (gsound_bad l0 l1 l2 l3 l4 _)
  · rw [decide_eq_false (fun x => h1 x.2.1), Bool.false_and]
    exact E.congr (fun k => by unfold gstate_Sound.f; rw [if_neg (by omega)]) (gsound_bad l0 l1 l2 l3 l4 _)

theorem rsound_pts (l0 l1 : List S43) (l2 l3 : List Bool) (l4 : List Int) (hb0 : l0.length ≤ 4096) (hb1 : l1.length = l0.length) : ∀ d i, i + d = l0.length →
    E (fun k => serifref09_Sound.l1 k (l0.length : Int) (i : Int) l0 l1 l2 l3 l4) (both l0 l1 d i)
  | 0, i, h => E.one (fun k => by
      simp only [serifref09_Sound.l1]
      rw [if_neg (by omega)]
      rfl)
  | d + 1, i, h => by
    have f0 : serifref01_Fix.f (rd_T43 l0 (i : Int)).f0 = some (fixB (l0.getD i z43).f0) := by rw [rdT]; exact fix_f _
    have f1 : serifref01_Fix.f (rd_T43 l0 (i : Int)).f1 = some (fixB (l0.getD i z43).f1) := by rw [rdT]; exact fix_f _
    have f2 : serifref01_Fix.f (rd_T43 l1 (i : Int)).f0 = some (fixB (l1.getD i z43).f0) := by rw [rdT]; exact fix_f _
    have f3 : serifref01_Fix.f (rd_T43 l1 (i : Int)).f1 = some (fixB (l1.getD i z43).f1) := by rw [rdT]; exact fix_f _
    have ih := rsound_pts l0 l1 l2 l3 l4 hb0 hb1 d (i + 1) (by omega)
    have un : ∀ k, serifref09_Sound.l1 (k + 1) (l0.length : Int) (i : Int) l0 l1 l2 l3 l4 = if fixB (l0.getD i z43).f0 = true then (if fixB (l0.getD i z43).f1 = true then (if fixB (l1.getD i z43).f0 = true then (if fixB (l1.getD i z43).f1 = true then serifref09_Sound.l1 k (l0.length : Int) ((i + 1 : Nat) : Int) l0 l1 l2 l3 l4 else some false) else some false) else some false) else some false := by
      intro k
      simp only [serifref09_Sound.l1]
      rw [if_pos (by omega), if_pos (by omega), if_pos (by omega), if_pos (by omega), f0, f1, f2, f3, wn (by omega)]
      rfl
    rw [both]
    unfold okS
    cases a0 : fixB (l0.getD i z43).f0 with
    | false => exact E.one (fun k => by rw [un, a0, if_neg (by decide)]; rfl)
    | true =>
      cases a1 : fixB (l0.getD i z43).f1 with
      | false => exact E.one (fun k => by rw [un, a0, a1, if_pos rfl, if_neg (by decide)]; rfl)
      | true =>
        cases a2 : fixB (l1.getD i z43).f0 with
        | false => exact E.one (fun k => by rw [un, a0, a1, a2, if_pos rfl, if_pos rfl, if_neg (by decide)]; rfl)
        | true =>
          cases a3 : fixB (l1.getD i z43).f1 with
          | false => exact E.one (fun k => by rw [un, a0, a1, a2, a3, if_pos rfl, if_pos rfl, if_pos rfl, if_neg (by decide)]; rfl)
          | true =>
            simp only [Bool.true_and]
            exact E.succ (fun k => by rw [un, a0, a1, a2, a3, if_pos rfl, if_pos rfl, if_pos rfl, if_pos rfl]) ih

theorem rsound_loop (l0 l1 : List S43) (l2 l3 : List Bool) (l4 : List Int) (hb0 : l0.length ≤ 4096) (hb1 : l1.length = l0.length) (hb4 : l4.length ≤ 17592186044416) : ∀ d i, i + d = l4.length →
    E (fun k => serifref09_Sound.l0 k (l0.length : Int) l4 (l4.length : Int) (i : Int) l0 l1 l2 l3 l4) (rends (l0.length : Int) l4 d i && both l0 l1 l0.length 0)
  | 0, i, h => by
    rw [rends, Bool.true_and]
    refine E.succ (fun k => ?_) (rsound_pts l0 l1 l2 l3 l4 hb0 hb1 l0.length 0 (by omega))
    simp only [serifref09_Sound.l0]
    rw [if_neg (by omega)]
    rfl
  | d + 1, i, h => by
    have ih := rsound_loop l0 l1 l2 l3 l4 hb0 hb1 hb4 d (i + 1) (by omega)
    rw [rends]
    by_cases e : l4.getD i 0 < 0
    · rw [if_pos e, Bool.false_and]
      refine E.one (fun k => ?_)
      simp only [serifref09_Sound.l0]
      rw [if_pos (by omega), if_pos (by omega), if_pos (by omega), rd_nat, if_pos e]
    · rw [if_neg e]
      by_cases e2 : l4.getD i 0 ≥ (l0.length : Int)
      · rw [if_pos e2, Bool.false_and]
        refine E.one (fun k => ?_)
        simp only [serifref09_Sound.l0]
        rw [if_pos (by omega), if_pos (by omega), if_pos (by omega), rd_nat, if_neg e, if_pos e2]
      · rw [if_neg e2]
        by_cases hi : 0 < i
        · rw [if_pos hi]
          by_cases e3 : l4.getD i 0 ≤ l4.getD (i - 1) 0
          · rw [if_pos e3, Bool.false_and]
            refine E.one (fun k => ?_)
            simp only [serifref09_Sound.l0]
            rw [if_pos (by omega), if_pos (by omega), if_pos (by omega), rd_nat, if_neg e, if_neg e2, if_pos (by omega), wp hi (by omega), if_pos (by omega), if_pos (by omega), rd_nat, if_pos e3]
          · rw [if_neg e3]
            refine E.succ (fun k => ?_) ih
            simp only [serifref09_Sound.l0]
            rw [if_pos (by omega), if_pos (by omega), if_pos (by omega), rd_nat, if_neg e, if_neg e2, if_pos (by omega), wp hi (by omega), if_pos (by omega), if_pos (by omega), rd_nat, if_neg e3, wn (by omega)]
        · rw [if_neg hi]
          refine E.succ (fun k => ?_) ih
          simp only [serifref09_Sound.l0]
          rw [if_pos (by omega), if_pos (by omega), if_pos (by omega), rd_nat, if_neg e, if_neg e2, if_neg (by omega), wn (by omega)]

theorem rsound_bad (l0 l1 : List S43) (l2 l3 : List Bool) (l4 : List Int) (n : Int) : E (fun k => serifref09_Sound.j0 k n true l0 l1 l2 l3 l4) false := E.one (fun k => by simp only [serifref09_Sound.j0]; rw [if_pos trivial])

theorem rsound (l0 l1 : List S43) (l2 l3 : List Bool) (l4 : List Int) (hb4 : l4.length ≤ 17592186044416) : E (fun k => serifref09_Sound.f k l0 l1 l2 l3 l4) (soundB l0 l1 l2 l3 l4) := by
  unfold soundB
  by_cases h4 : l0.length ≤ 4096
  · by_cases h1 : l1.length = l0.length
    · by_cases h2 : l2.length = l0.length
      · refine E.congr (h := fun k => serifref09_Sound.j0 k (l0.length : Int) ((l3.length : Int) != (l0.length : Int)) l0 l1 l2 l3 l4) (fun k => by unfold serifref09_Sound.f; rw [if_neg (by omega), if_pos (by omega), if_pos (by omega)]) ?_
        by_cases h3 : l3.length = l0.length
        · rw [decide_eq_true (⟨h4, h1, h2, h3⟩ : l0.length ≤ 4096 ∧ l1.length = l0.length ∧ l2.length = l0.length ∧ l3.length = l0.length), Bool.true_and, bne_eq_false_iff_eq.2 (show (l3.length : Int) = (l0.length : Int) by omega)]
          exact E.succ (fun k => by simp only [serifref09_Sound.j0]; rw [if_neg (by decide)]; rfl) (rsound_loop l0 l1 l2 l3 l4 h4 h1 hb4 l4.length 0 (by omega))
        · rw [decide_eq_false (fun x => h3 x.2.2.2), Bool.false_and, bne_iff_ne.2 (show (l3.length : Int) ≠ (l0.length : Int) by omega)]
          exact rsound_bad ..
      · rw [decide_eq_false (fun x => h2 x.2.2.1), Bool.false_and]
        exact E.congr (fun k => by unfold serifref09_Sound.f; rw [if_neg (by omega), if_pos (by omega), if_neg (by omega)]) (rsound_bad l0 l1 l2 l3 l4 _)
    · rw [decide_eq_false (fun x => h1 x.2.1), Bool.false_and]
      exact E.congr (fun k => by unfold serifref09_Sound.f; rw [if_neg (by omega), if_neg (by omega)]) (rsound_bad l0 l1 l2 l3 l4 _)
  · rw [decide_eq_false (show ¬ (l0.length ≤ 4096 ∧ l1.length = l0.length ∧ l2.length = l0.length ∧ l3.length = l0.length) from fun x => h4 x.1), Bool.false_and]
    exact E.congr (fun k => by unfold serifref09_Sound.f; rw [if_pos (by omega)]) (rsound_bad l0 l1 l2 l3 l4 _)

theorem copy_f (l0 l1 : List S43) (l2 l3 : List Bool) (l4 : List Int) (b0 : l0.length < 8796093022208) (b1 : l1.length < 8796093022208) (b2 : l2.length < 140737488355328) (b3 : l3.length < 140737488355328) (b4 : l4.length < 17592186044416) :
    serifref09_Copy.f l0 l1 l2 l3 l4 = some (l0, l1, l2, l3, l4) := by
  unfold serifref09_Copy.f
  simp only [List.length_nil, Nat.zero_add, List.nil_append]
  rw [if_pos b0, if_pos b1, if_pos b2, if_pos b3, if_pos b4]

theorem spots_loop (l : List S43) (hb : l.length < 9000000000000000000) : ∀ d i, i + d = l.length → E (fun k => serifref09_sameSpots.l0 k l l (l.length : Int) (i : Int)) true
  | 0, i, h => E.one (fun k => by
      simp only [serifref09_sameSpots.l0]
      rw [if_neg (by omega)])
  | d + 1, i, h => by
    refine E.succ (fun k => ?_) (spots_loop l hb d (i + 1) (by omega))
    simp only [serifref09_sameSpots.l0]
    rw [if_pos (by omega), if_pos (by omega), if_pos (by omega), if_pos (by omega), if_neg (by simp), wn (by omega)]
theorem bools_loop (l : List Bool) (hb : l.length < 9000000000000000000) : ∀ d i, i + d = l.length → E (fun k => serifref09_sameBools.l0 k l l (l.length : Int) (i : Int)) true
  | 0, i, h => E.one (fun k => by
      simp only [serifref09_sameBools.l0]
      rw [if_neg (by omega)])
  | d + 1, i, h => by
    refine E.succ (fun k => ?_) (bools_loop l hb d (i + 1) (by omega))
    simp only [serifref09_sameBools.l0]
    rw [if_pos (by omega), if_pos (by omega), if_pos (by omega), if_pos (by omega), if_neg (by simp), wn (by omega)]
theorem ints_loop (l : List Int) (hb : l.length < 9000000000000000000) : ∀ d i, i + d = l.length → E (fun k => serifref02_SameInts.l0 k l l (l.length : Int) (i : Int)) true
  | 0, i, h => E.one (fun k => by
      simp only [serifref02_SameInts.l0]
      rw [if_neg (by omega)])
  | d + 1, i, h => by
    refine E.succ (fun k => ?_) (ints_loop l hb d (i + 1) (by omega))
    simp only [serifref02_SameInts.l0]
    rw [if_pos (by omega), if_pos (by omega), if_pos (by omega), if_pos (by omega), if_pos trivial, wn (by omega)]
theorem spots_f (l : List S43) (hb : l.length < 9000000000000000000) : E (fun k => serifref09_sameSpots.f k l l) true :=
  E.congr (fun k => by unfold serifref09_sameSpots.f; rw [if_pos rfl]; rfl) (spots_loop l hb l.length 0 (by omega))
theorem bools_f (l : List Bool) (hb : l.length < 9000000000000000000) : E (fun k => serifref09_sameBools.f k l l) true :=
  E.congr (fun k => by unfold serifref09_sameBools.f; rw [if_pos rfl]; rfl) (bools_loop l hb l.length 0 (by omega))
theorem ints_f (l : List Int) (hb : l.length < 9000000000000000000) : E (fun k => serifref02_SameInts.f k l l) true :=
  E.congr (fun k => by unfold serifref02_SameInts.f; rw [if_pos rfl]; rfl) (ints_loop l hb l.length 0 (by omega))
theorem E.then {β : Type} {g : Nat → Option Bool} {h : Nat → Option β} {f : Option β} {s : β} (H : E g true) (H2 : E h s) : E (fun k => (g k).bind fun t => if t = true then h k else f) s :=
  E.bind (h := fun k t => if t = true then h k else f) H (E.congr (fun k => by rw [if_pos rfl]) H2)
theorem same_f (l0 l1 : List S43) (l2 l3 : List Bool) (l4 : List Int) (b0 : l0.length < 9000000000000000000) (b1 : l1.length < 9000000000000000000) (b2 : l2.length < 9000000000000000000) (b3 : l3.length < 9000000000000000000) (b4 : l4.length < 9000000000000000000) :
    E (fun k => serifref09_Same.f k l0 l1 l2 l3 l4 l0 l1 l2 l3 l4) true :=
  E.then (spots_f l0 b0) (E.then (spots_f l1 b1) (E.then (bools_f l2 b2) (E.then (bools_f l3 b3) (E.bind (h := fun _ t => some t) (ints_f l4 b4) E.of))))

theorem rdL (l : List (List S48)) (i : Nat) : rd_L4 l (i : Int) = l.getD i [] := by simp [rd_L4]
theorem rdK (l : List S48) (i : Nat) : rd_T48 l (i : Int) = l.getD i z48 := by simp [rd_T48]
theorem take_one {α : Type} {l : List α} {i : Nat} (d : α) (h : i < l.length) : l.take i ++ [l.getD i d] = l.take (i + 1) := by
  rw [List.take_add_one, List.getD_eq_getElem?_getD, List.getElem?_eq_getElem h]
  rfl
theorem drop_one {α : Type} {l : List α} {i : Nat} (d : α) (h : i < l.length) : l.drop i = l.getD i d :: l.drop (i + 1) := by
  rw [List.drop_eq_getElem_cons h, List.getD_eq_getElem?_getD, List.getElem?_eq_getElem h]
  rfl
theorem w64 {n : Int} (h0 : -9223372036854775808 ≤ n) (h1 : n < 9223372036854775808) : wrap64 n = n := by
  unfold wrap64
  omega
theorem zero_cast : ((0 : Nat) : Int) = 0 := rfl

/-- How many knots the rows have. -/
def tot (l : List (List S48)) : Nat → Nat → Nat
  | 0, _ => 0
  | d + 1, i => (l.getD i []).length + tot l d (i + 1)
theorem row_le (l : List (List S48)) : ∀ d i j, i ≤ j → j < i + d → (l.getD j []).length ≤ tot l d i
  | 0, i, j, h, h2 => by omega
  | d + 1, i, j, h, h2 => by
    rw [tot]
    rcases Nat.eq_or_lt_of_le h with e | e
    · subst e; omega
    · have := row_le l d (i + 1) j (by omega) (by omega)
      omega

theorem copy6_loop (l : List (List S48)) (hb : l.length ≤ 1048576) (ht : tot l l.length 0 ≤ 1048576) : ∀ d i, i + d = l.length → E (fun k => serifref06_Copy.l0 k (l.take i) l (l.length : Int) (i : Int)) l
  | 0, i, h => E.one (fun k => by
      simp only [serifref06_Copy.l0]
      rw [if_neg (by omega), List.take_of_length_le (by omega)])
  | d + 1, i, h => by
    have hr := row_le l l.length 0 i (by omega) (by omega)
    have hl : (l.take i).length ≤ 1048576 := by rw [List.length_take]; omega
    refine E.succ (fun k => ?_) (copy6_loop l hb ht d (i + 1) (by omega))
    simp only [serifref06_Copy.l0]
    rw [if_pos (by omega), if_pos (by omega), if_pos (by omega), rdL]
    simp only [Option.bind_some, List.length_nil, Nat.zero_add, List.nil_append]
    rw [if_pos (by omega), if_pos (by omega), take_one [] (by omega), wn (by omega)]
theorem copy6 (l : List (List S48)) (hb : l.length ≤ 1048576) (ht : tot l l.length 0 ≤ 1048576) : E (fun k => serifref06_Copy.f k l) l := copy6_loop l hb ht l.length 0 (by omega)

def sp (k : S48) : S43 := ⟨k.f0, k.f1⟩
def newO (l : List (List S48)) : Nat → Nat → List S43 → List S43
  | 0, _, o => o
  | d + 1, i, o => newO l d (i + 1) (o ++ (l.getD i []).map sp)
def newE (l : List (List S48)) : Nat → Nat → List S43 → List Int → List Int
  | 0, _, _, e => e
  | d + 1, i, o, e => newE l d (i + 1) (o ++ (l.getD i []).map sp) (if 0 < (l.getD i []).length then e ++ [((o ++ (l.getD i []).map sp).length : Int) - 1] else e)
theorem newO_len (l : List (List S48)) : ∀ d i o, (newO l d i o).length = o.length + tot l d i
  | 0, i, o => rfl
  | d + 1, i, o => by
    rw [newO, newO_len l d (i + 1), tot, List.length_append, List.length_map]
    omega
theorem newE_len (l : List (List S48)) : ∀ d i o e, (newE l d i o e).length ≤ e.length + d
  | 0, i, o, e => Nat.le_refl _
  | d + 1, i, o, e => by
    rw [newE]
    have := newE_len l d (i + 1) (o ++ (l.getD i []).map sp) (if 0 < (l.getD i []).length then e ++ [((o ++ (l.getD i []).map sp).length : Int) - 1] else e)
    have h2 : (if 0 < (l.getD i []).length then e ++ [((o ++ (l.getD i []).map sp).length : Int) - 1] else e).length ≤ e.length + 1 := by split <;> simp
    omega

abbrev Z := List S43 × List S43 × List Bool × List Bool × List Int
/-- The zone of an outline's knots. -/
def zone (l : List (List S48)) (d i : Nat) (o : List S43) (e : List Int) : Z :=
  (newO l d i o, newO l d i o, List.replicate (newO l d i o).length false, List.replicate (newO l d i o).length false, newE l d i o e)

theorem gnew_in (l : List (List S48)) (n x : Int) (row : List S48) (en : List Int) (r : Z) (he : en.length ≤ 1048576) : ∀ d j o, j + d = row.length → o.length + d ≤ 1048576 → row.length ≤ 1048576 →
    E (fun k => gstate_New.l0 k l n (wrap64 (x + 1)) (o ++ (row.drop j).map sp) (if 0 < row.length then en ++ [((o ++ (row.drop j).map sp).length : Int) - 1] else en)) r →
    E (fun k => gstate_New.l1 k row l n x row (row.length : Int) (j : Int) o en) r
  | 0, j, o, h, ho, hr, H => by
    rw [List.drop_eq_nil_of_le (by omega)] at H
    simp only [List.map_nil, List.append_nil] at H
    by_cases hp : 0 < row.length
    · rw [if_pos hp] at H
      refine E.succ (fun k => ?_) H
      simp only [gstate_New.l1]
      rw [if_neg (by omega), if_pos (by omega), if_pos (by omega), show wrap64 ((o.length : Int) - 1) = (o.length : Int) - 1 from w64 (by omega) (by omega)]
    · rw [if_neg hp] at H
      refine E.succ (fun k => ?_) H
      simp only [gstate_New.l1]
      rw [if_neg (by omega), if_neg (by omega)]
  | d + 1, j, o, h, ho, hr, H => by
    have e : o ++ (row.drop j).map sp = (o ++ [sp (row.getD j z48)]) ++ (row.drop (j + 1)).map sp := by
      rw [drop_one z48 (show j < row.length by omega), List.map_cons, List.append_assoc]
      rfl
    rw [e] at H
    refine E.succ (fun k => ?_) (gnew_in l n x row en r he d (j + 1) (o ++ [sp (row.getD j z48)]) (by omega) (by rw [List.length_append, List.length_singleton]; omega) hr H)
    simp only [gstate_New.l1]
    rw [if_pos (by omega), if_pos (by omega), if_pos (by omega), if_pos (by omega), rdK, wn (by omega)]
    rfl

theorem clone_f (o : List S43) (h : o.length < 8796093022208) : api_Spot_48.f o = some o := by
  unfold api_Spot_48.f
  simp [h]

theorem gnew_out (l : List (List S48)) (hb : l.length ≤ 1048576) : ∀ d i o en, i + d = l.length → o.length + tot l d i ≤ 1048576 → en.length ≤ i →
    E (fun k => gstate_New.l0 k l (l.length : Int) (i : Int) o en) (zone l d i o en)
  | 0, i, o, en, h, ho, he => E.one (fun k => by
      simp only [gstate_New.l0]
      rw [if_neg (by omega), clone_f o (by omega)]
      simp only [Option.bind_some]
      rw [if_pos (by omega), if_pos (by omega), show ((o.length : Int)).toNat = o.length from Int.toNat_natCast _]
      rfl)
  | d + 1, i, o, en, h, ho, he => by
    have hlen : (o ++ (l.getD i []).map sp).length = o.length + (l.getD i []).length := by rw [List.length_append, List.length_map]
    rw [tot] at ho
    have ih := gnew_out l hb d (i + 1) (o ++ (l.getD i []).map sp) (if 0 < (l.getD i []).length then en ++ [((o ++ (l.getD i []).map sp).length : Int) - 1] else en) (by omega) (by rw [hlen]; omega) (by split <;> first | (rw [List.length_append, List.length_singleton]; omega) | omega)
    have inn := gnew_in l (l.length : Int) (i : Int) (l.getD i []) en (zone l (d + 1) i o en) (by omega) (l.getD i []).length 0 o (by omega) (by omega) (by omega) (by rw [List.drop_zero, wn (by omega)]; exact ih)
    refine E.succ (fun k => ?_) inn
    simp only [gstate_New.l0]
    rw [if_pos (by omega), if_pos (by omega), if_pos (by omega), rdL]
    rfl
theorem gnew (l : List (List S48)) (hb : l.length ≤ 1048576) (ht : tot l l.length 0 ≤ 1048576) : E (fun k => gstate_New.f k l) (zone l l.length 0 [] []) :=
  gnew_out l hb l.length 0 [] [] (by omega) (by simpa using ht) (by simp)

theorem rep_one (o : List S43) (x : S43) : List.replicate o.length false ++ [false] = List.replicate (o ++ [x]).length false := by
  rw [List.length_append, List.length_singleton, List.replicate_succ']

theorem rnew_in (l : List (List S48)) (n x : Int) (row : List S48) (en : List Int) (r : Z) (he : en.length ≤ 1048576) : ∀ d j o, j + d = row.length → o.length + d ≤ 1048576 → row.length ≤ 1048576 →
    E (fun k => serifref09_New.l0 k l n (wrap64 (x + 1)) (o ++ (row.drop j).map sp) (o ++ (row.drop j).map sp) (List.replicate (o ++ (row.drop j).map sp).length false) (List.replicate (o ++ (row.drop j).map sp).length false) (if 0 < row.length then en ++ [((o ++ (row.drop j).map sp).length : Int) - 1] else en)) r →
    E (fun k => serifref09_New.l1 k row l n x row (row.length : Int) (j : Int) o o (List.replicate o.length false) (List.replicate o.length false) en) r
  | 0, j, o, h, ho, hr, H => by
    rw [List.drop_eq_nil_of_le (by omega)] at H
    simp only [List.map_nil, List.append_nil] at H
    by_cases hp : 0 < row.length
    · rw [if_pos hp] at H
      refine E.succ (fun k => ?_) H
      simp only [serifref09_New.l1]
      rw [if_neg (by omega), if_pos (by omega), if_pos (by omega), show wrap64 ((o.length : Int) - 1) = (o.length : Int) - 1 from w64 (by omega) (by omega)]
    · rw [if_neg hp] at H
      refine E.succ (fun k => ?_) H
      simp only [serifref09_New.l1]
      rw [if_neg (by omega), if_neg (by omega)]
  | d + 1, j, o, h, ho, hr, H => by
    have e : o ++ (row.drop j).map sp = (o ++ [sp (row.getD j z48)]) ++ (row.drop (j + 1)).map sp := by
      rw [drop_one z48 (show j < row.length by omega), List.map_cons, List.append_assoc]
      rfl
    rw [e] at H
    refine E.succ (fun k => ?_) (rnew_in l n x row en r he d (j + 1) (o ++ [sp (row.getD j z48)]) (by omega) (by rw [List.length_append, List.length_singleton]; omega) hr H)
    have hrep : (List.replicate o.length false).length = o.length := List.length_replicate
    simp only [serifref09_New.l1]
    rw [if_pos (by omega), if_pos (by omega), if_pos (by omega), if_pos (by omega), if_pos (by omega), if_pos (by omega), if_pos (by omega), rdK, wn (by omega), rep_one o (sp (row.getD j z48))]
    rfl
theorem rnew_out (l : List (List S48)) (hb : l.length ≤ 1048576) : ∀ d i o en, i + d = l.length → o.length + tot l d i ≤ 1048576 → en.length ≤ i →
    E (fun k => serifref09_New.l0 k l (l.length : Int) (i : Int) o o (List.replicate o.length false) (List.replicate o.length false) en) (zone l d i o en)
  | 0, i, o, en, h, ho, he => E.one (fun k => by
      simp only [serifref09_New.l0]
      rw [if_neg (by omega)]
      rfl)
  | d + 1, i, o, en, h, ho, he => by
    have hlen : (o ++ (l.getD i []).map sp).length = o.length + (l.getD i []).length := by rw [List.length_append, List.length_map]
    rw [tot] at ho
    have ih := rnew_out l hb d (i + 1) (o ++ (l.getD i []).map sp) (if 0 < (l.getD i []).length then en ++ [((o ++ (l.getD i []).map sp).length : Int) - 1] else en) (by omega) (by rw [hlen]; omega) (by split <;> first | (rw [List.length_append, List.length_singleton]; omega) | omega)
    have inn := rnew_in l (l.length : Int) (i : Int) (l.getD i []) en (zone l (d + 1) i o en) (by omega) (l.getD i []).length 0 o (by omega) (by omega) (by omega) (by rw [List.drop_zero, wn (by omega)]; exact ih)
    refine E.succ (fun k => ?_) inn
    simp only [serifref09_New.l0]
    rw [if_pos (by omega), if_pos (by omega), if_pos (by omega), rdL]
    rfl
theorem rnew (l : List (List S48)) (hb : l.length ≤ 1048576) (ht : tot l l.length 0 ≤ 1048576) : E (fun k => serifref09_New.f k l) (zone l l.length 0 [] []) :=
  rnew_out l hb l.length 0 [] [] (by omega) (by simpa using ht) (by simp)

def knot (cur : List S43) (row : List S48) (a j : Nat) : S48 := ⟨(cur.getD (a + j) z43).f0, (cur.getD (a + j) z43).f1, (row.getD j z48).f2⟩
def fill (cur : List S43) (row : List S48) (a : Nat) : Nat → Nat → List S48
  | 0, _ => []
  | d + 1, j => knot cur row a j :: fill cur row a d (j + 1)
def fillG (cur : List S43) (row : List S48) (a : Nat) : Nat → Nat → List S48
  | 0, _ => []
  | d + 1, j => if a + j < cur.length then knot cur row a j :: fillG cur row a d (j + 1) else fillG cur row a d (j + 1)
theorem fill_len (cur : List S43) (row : List S48) (a : Nat) : ∀ d j, (fill cur row a d j).length = d
  | 0, j => rfl
  | d + 1, j => by rw [fill, List.length_cons, fill_len cur row a d (j + 1)]
theorem fill_same (cur : List S43) (row : List S48) (a : Nat) : ∀ d j, a + j + d ≤ cur.length → fillG cur row a d j = fill cur row a d j
  | 0, j, h => rfl
  | d + 1, j, h => by rw [fill, fillG, if_pos (by omega), fill_same cur row a d (j + 1) (by omega)]
def rowsOf (cur : List S43) (l : List (List S48)) : Nat → Nat → Nat → List (List S48)
  | 0, _, _ => []
  | d + 1, i, a => fill cur (l.getD i []) a (l.getD i []).length 0 :: rowsOf cur l d (i + 1) (a + (l.getD i []).length)
def rowsG (cur : List S43) (l : List (List S48)) : Nat → Nat → Nat → List (List S48)
  | 0, _, _ => []
  | d + 1, i, a => fillG cur (l.getD i []) a (l.getD i []).length 0 :: rowsG cur l d (i + 1) (a + (l.getD i []).length)
theorem rows_same (cur : List S43) (l : List (List S48)) : ∀ d i a, a + tot l d i ≤ cur.length → rowsG cur l d i a = rowsOf cur l d i a
  | 0, i, a, h => rfl
  | d + 1, i, a, h => by
    rw [tot] at h
    rw [rowsG, rowsOf, fill_same cur (l.getD i []) a _ 0 (by omega), rows_same cur l d (i + 1) _ (by omega)]
theorem rows_len (cur : List S43) (l : List (List S48)) : ∀ d i a, (rowsOf cur l d i a).length = d
  | 0, i, a => rfl
  | d + 1, i, a => by rw [rowsOf, List.length_cons, rows_len cur l d (i + 1)]
theorem rows_each (cur : List S43) (l : List (List S48)) : ∀ d i a j, ((rowsOf cur l d i a).getD j []).length ≤ tot l d i
  | 0, i, a, j => by simp [rowsOf, tot]
  | d + 1, i, a, j => by
    rw [rowsOf, tot]
    cases j with
    | zero => simp only [List.getD_cons_zero, fill_len]; omega
    | succ j =>
      have := rows_each cur l d (i + 1) (a + (l.getD i []).length) j
      simp only [List.getD_cons_succ]
      omega

theorem rout_in (cur l0 : List S43) (l2 l3 : List Bool) (l4 : List Int) (l : List (List S48)) (n x : Int) (row : List S48) (out : List (List S48)) (a : Nat) (r : List (List S48) × Int) (ha : a + row.length ≤ 1048576) (hl : out.length < 1048576) : ∀ d j p, j + d = row.length → p.length ≤ j →
    E (fun k => serifref09_Outline.l0 k ((a + row.length : Nat) : Int) (out ++ [p ++ fillG cur row a d j]) l n (wrap64 (x + 1)) l0 cur l2 l3 l4) r →
    E (fun k => serifref09_Outline.l1 k ((a + j : Nat) : Int) out p l n x row (row.length : Int) (j : Int) l0 cur l2 l3 l4) r
  | 0, j, p, h, hp, H => by
    rw [fillG, List.append_nil] at H
    refine E.succ (fun k => ?_) H
    simp only [serifref09_Outline.l1]
    rw [if_neg (by omega), if_pos (by omega), show a + j = a + row.length by omega]
  | d + 1, j, p, h, hp, H => by
    rw [fillG] at H
    by_cases hc : a + j < cur.length
    · rw [if_pos hc, show p ++ knot cur row a j :: fillG cur row a d (j + 1) = (p ++ [knot cur row a j]) ++ fillG cur row a d (j + 1) by simp] at H
      refine E.succ (fun k => ?_) (rout_in cur l0 l2 l3 l4 l n x row out a r ha hl d (j + 1) (p ++ [knot cur row a j]) (by omega) (by rw [List.length_append, List.length_singleton]; omega) H)
      simp only [serifref09_Outline.l1]
      rw [if_pos (by omega), if_pos (by omega), if_pos (by omega), if_pos (by omega), if_pos (by omega), if_pos (by omega), rdT, rdK, wn (by omega), wn (by omega)]
      rfl
    · rw [if_neg hc] at H
      refine E.succ (fun k => ?_) (rout_in cur l0 l2 l3 l4 l n x row out a r ha hl d (j + 1) p (by omega) (by omega) H)
      simp only [serifref09_Outline.l1]
      rw [if_pos (by omega), if_pos (by omega), if_pos (by omega), if_neg (by omega), wn (by omega), wn (by omega)]
      rfl
theorem rout_out (cur l0 : List S43) (l2 l3 : List Bool) (l4 : List Int) (hb4 : l4.length ≤ 17592186044416) (l : List (List S48)) (hb : l.length ≤ 1048576) : ∀ d i a out, i + d = l.length → out.length = i → a + tot l d i ≤ 1048576 →
    E (fun k => serifref09_Outline.l0 k (a : Int) out l (l.length : Int) (i : Int) l0 cur l2 l3 l4) (if soundB l0 cur l2 l3 l4 = true ∧ a + tot l d i = cur.length then (out ++ rowsG cur l d i a, 0) else ([], 91))
  | 0, i, a, out, h, ho, ha => by
    refine E.succ (h := fun k => (serifref09_Sound.f k l0 cur l2 l3 l4).bind fun t => if t = true then (if (a : Int) = (cur.length : Int) then some (out, 0) else some ([], 91)) else some ([], 91)) (fun k => by
      simp only [serifref09_Outline.l0]
      rw [if_neg (by omega)]) ?_
    refine E.bind (h := fun _ t => if t = true then (if (a : Int) = (cur.length : Int) then some (out, 0) else some ([], 91)) else some ([], 91)) (rsound l0 cur l2 l3 l4 hb4) ?_
    rw [tot, rowsG, List.append_nil]
    by_cases hs : soundB l0 cur l2 l3 l4 = true
    · by_cases hc : a = cur.length
      · exact ⟨0, fun _ _ => by simp [hs, hc]⟩
      · exact ⟨0, fun _ _ => by simp [hs, hc, show ¬ (a : Int) = (cur.length : Int) by omega]⟩
    · exact ⟨0, fun _ _ => by simp [hs]⟩
  | d + 1, i, a, out, h, ho, ha => by
    rw [tot] at ha
    have ih := rout_out cur l0 l2 l3 l4 hb4 l hb d (i + 1) (a + (l.getD i []).length) (out ++ [fillG cur (l.getD i []) a (l.getD i []).length 0]) (by omega) (by rw [List.length_append, List.length_singleton]; omega) (by omega)
    rw [show a + (l.getD i []).length + tot l d (i + 1) = a + tot l (d + 1) i by rw [tot]; omega, show (out ++ [fillG cur (l.getD i []) a (l.getD i []).length 0]) ++ rowsG cur l d (i + 1) (a + (l.getD i []).length) = out ++ rowsG cur l (d + 1) i a by rw [rowsG]; simp] at ih
    refine E.succ (fun k => ?_) (rout_in cur l0 l2 l3 l4 l (l.length : Int) (i : Int) (l.getD i []) out a _ (by omega) (by omega) (l.getD i []).length 0 [] (by omega) (by simp) (by rw [wn (by omega), List.nil_append]; exact ih))
    simp only [serifref09_Outline.l0]
    rw [if_pos (by omega), if_pos (by omega), if_pos (by omega), rdL]
    rfl

theorem get_mid (D R : List (List S48)) (P : List S48) : (D ++ P :: R).getD D.length [] = P := by simp [List.getD_eq_getElem?_getD]
theorem set_mid (D R : List (List S48)) (P Q : List S48) : (D ++ P :: R).set D.length Q = D ++ Q :: R := by
  rw [List.set_append_right _ _ (Nat.le_refl _), Nat.sub_self]
  rfl
theorem gout_in (cur l0 : List S43) (l2 l3 : List Bool) (l4 : List Int) (l : List (List S48)) (n : Int) (row : List S48) (D R : List (List S48)) (a : Nat) (r : List (List S48) × Int) (ha : a + row.length ≤ cur.length) (hc : cur.length ≤ 1048576) (hD : D.length ≤ 1048576) : ∀ d j p, j + d = row.length → p.length ≤ j →
    E (fun k => gstate_Outline.l1 k (D ++ (p ++ fill cur row a d j) :: R) ((a + row.length : Nat) : Int) l n (wrap64 ((D.length : Int) + 1)) l0 cur l2 l3 l4) r →
    E (fun k => gstate_Outline.l2 k (D ++ p :: R) ((a + j : Nat) : Int) (D.length : Int) l n (D.length : Int) row (row.length : Int) (j : Int) l0 cur l2 l3 l4) r
  | 0, j, p, h, hp, H => by
    rw [fill, List.append_nil] at H
    refine E.succ (fun k => ?_) H
    simp only [gstate_Outline.l2]
    rw [if_neg (by omega), show a + j = a + row.length by omega]
  | d + 1, j, p, h, hp, H => by
    rw [fill, show p ++ knot cur row a j :: fill cur row a d (j + 1) = (p ++ [knot cur row a j]) ++ fill cur row a d (j + 1) by simp] at H
    have hDl : (D ++ p :: R).length = D.length + R.length + 1 := by rw [List.length_append, List.length_cons]; omega
    refine E.succ (fun k => ?_) (gout_in cur l0 l2 l3 l4 l n row D R a r ha hc hD d (j + 1) (p ++ [knot cur row a j]) (by omega) (by rw [List.length_append, List.length_singleton]; omega) H)
    simp only [gstate_Outline.l2]
    rw [if_pos (by omega), if_pos (by omega), if_pos (by omega), if_pos (by omega), if_pos (by omega), if_pos (by omega), if_pos (by omega), rdL, get_mid, if_pos (by omega), rdT, rdK, wn (by omega), wn (by omega), show ((D.length : Int)).toNat = D.length from Int.toNat_natCast _, set_mid]
    rfl
theorem gout_out (cur l0 : List S43) (l2 l3 : List Bool) (l4 : List Int) (l : List (List S48)) (hb : l.length ≤ 1048576) (hc : cur.length ≤ 1048576) : ∀ d a D, D.length + d = l.length → a + tot l d D.length = cur.length →
    E (fun k => gstate_Outline.l1 k (D ++ List.replicate d []) (a : Int) l (l.length : Int) (D.length : Int) l0 cur l2 l3 l4) (D ++ rowsOf cur l d D.length a, 0)
  | 0, a, D, h, ha => E.one (fun k => by
      simp only [gstate_Outline.l1]
      rw [if_neg (by omega)]
      rfl)
  | d + 1, a, D, h, ha => by
    rw [tot] at ha
    have hlen : (D ++ [fill cur (l.getD D.length []) a (l.getD D.length []).length 0]).length = D.length + 1 := by rw [List.length_append, List.length_singleton]
    have ih := gout_out cur l0 l2 l3 l4 l hb hc d (a + (l.getD D.length []).length) (D ++ [fill cur (l.getD D.length []) a (l.getD D.length []).length 0]) (by omega) (by rw [hlen]; omega)
    rw [hlen, show (D ++ [fill cur (l.getD D.length []) a (l.getD D.length []).length 0]) ++ rowsOf cur l d (D.length + 1) (a + (l.getD D.length []).length) = D ++ rowsOf cur l (d + 1) D.length a by rw [rowsOf]; simp, List.append_assoc] at ih
    refine E.succ (fun k => ?_) (gout_in cur l0 l2 l3 l4 l (l.length : Int) (l.getD D.length []) D (List.replicate d []) a _ (by omega) hc (by omega) (l.getD D.length []).length 0 [] (by omega) (by simp) (by rw [wn (by omega), List.nil_append]; exact ih))
    simp only [gstate_Outline.l1]
    rw [if_pos (by omega), if_pos (by omega), if_pos (by omega), rdL]
    rfl
theorem gout_cnt (cur l0 : List S43) (l2 l3 : List Bool) (l4 : List Int) (l : List (List S48)) (hb : l.length ≤ 1048576) (r : List (List S48) × Int) : ∀ d i a, i + d = l.length → a + tot l d i ≤ 1048576 →
    E (fun k => (gstate_Sound.f k l0 cur l2 l3 l4).bind fun t => if t = true then gstate_Outline.j1 k l (((a + tot l d i : Nat) : Int) != (cur.length : Int)) l0 cur l2 l3 l4 else gstate_Outline.j1 k l true l0 cur l2 l3 l4) r →
    E (fun k => gstate_Outline.l0 k l (a : Int) l (l.length : Int) (i : Int) l0 cur l2 l3 l4) r
  | 0, i, a, h, ha, H => by
    refine E.succ (fun k => ?_) H
    simp only [gstate_Outline.l0]
    rw [if_neg (by omega)]
    rfl
  | d + 1, i, a, h, ha, H => by
    rw [tot] at ha
    rw [show a + tot l (d + 1) i = (a + (l.getD i []).length) + tot l d (i + 1) by rw [tot]; omega] at H
    refine E.succ (fun k => ?_) (gout_cnt cur l0 l2 l3 l4 l hb r d (i + 1) (a + (l.getD i []).length) (by omega) (by omega) H)
    simp only [gstate_Outline.l0]
    rw [if_pos (by omega), if_pos (by omega), if_pos (by omega), rdL, wn (by omega), w64 (by omega) (by omega)]
    rfl

/-- What Outline answers. -/
def outR (l0 l1 : List S43) (l2 l3 : List Bool) (l4 : List Int) (l : List (List S48)) : List (List S48) × Int :=
  if soundB l0 l1 l2 l3 l4 = true ∧ tot l l.length 0 = l1.length then (rowsOf l1 l l.length 0 0, 0) else ([], 91)
theorem rout (l0 l1 : List S43) (l2 l3 : List Bool) (l4 : List Int) (hb4 : l4.length ≤ 17592186044416) (l : List (List S48)) (hb : l.length ≤ 1048576) (ht : tot l l.length 0 ≤ 1048576) :
    E (fun k => serifref09_Outline.f k l0 l1 l2 l3 l4 l) (outR l0 l1 l2 l3 l4 l) := by
  have H := rout_out l1 l0 l2 l3 l4 hb4 l hb l.length 0 0 [] (by omega) rfl (by omega)
  unfold outR
  by_cases hc : soundB l0 l1 l2 l3 l4 = true ∧ tot l l.length 0 = l1.length
  · rw [if_pos hc]
    rw [if_pos ⟨hc.1, by omega⟩, List.nil_append, rows_same l1 l l.length 0 0 (by omega)] at H
    exact H
  · rw [if_neg hc]
    rw [if_neg (fun x => hc ⟨x.1, by omega⟩)] at H
    exact H
theorem gout_bad (l0 l1 : List S43) (l2 l3 : List Bool) (l4 : List Int) (l : List (List S48)) : E (fun k => gstate_Outline.j1 k l true l0 l1 l2 l3 l4) ([], 91) := E.one (fun k => by simp only [gstate_Outline.j1]; rw [if_pos trivial])
theorem gout (l0 l1 : List S43) (l2 l3 : List Bool) (l4 : List Int) (hb4 : l4.length ≤ 17592186044416) (l : List (List S48)) (hb : l.length ≤ 1048576) (ht : tot l l.length 0 ≤ 1048576) :
    E (fun k => gstate_Outline.f k l0 l1 l2 l3 l4 l) (outR l0 l1 l2 l3 l4 l) := by
  refine gout_cnt l1 l0 l2 l3 l4 l hb _ l.length 0 0 (by omega) (by omega) ?_
  rw [Nat.zero_add]
  refine E.bind (h := fun k t => if t = true then gstate_Outline.j1 k l (((tot l l.length 0 : Nat) : Int) != (l1.length : Int)) l0 l1 l2 l3 l4 else gstate_Outline.j1 k l true l0 l1 l2 l3 l4) (gsound l0 l1 l2 l3 l4 hb4) ?_
  unfold outR
  by_cases hs : soundB l0 l1 l2 l3 l4 = true
  · by_cases hc : tot l l.length 0 = l1.length
    · rw [if_pos ⟨hs, hc⟩]
      refine E.congr (h := fun k => gstate_Outline.j1 k l false l0 l1 l2 l3 l4) (fun k => by rw [if_pos hs, bne_eq_false_iff_eq.2 (show ((tot l l.length 0 : Nat) : Int) = (l1.length : Int) by omega)]) ?_
      refine E.succ (fun k => ?_) (gout_out l1 l0 l2 l3 l4 l hb (by omega) l.length 0 [] (by simp) (by simpa using hc))
      simp only [gstate_Outline.j1]
      rw [if_neg (by decide), if_pos (by omega), if_pos (by omega), show ((l.length : Int)).toNat = l.length from Int.toNat_natCast _]
      rfl
    · rw [if_neg (fun x => hc x.2)]
      exact E.congr (fun k => by rw [if_pos hs, bne_iff_ne.2 (show ((tot l l.length 0 : Nat) : Int) ≠ (l1.length : Int) by omega)]) (gout_bad l0 l1 l2 l3 l4 l)
  · rw [if_neg (fun x => hs x.1)]
    exact E.congr (fun k => by rw [if_neg hs]) (gout_bad l0 l1 l2 l3 l4 l)
theorem outR_small (l0 l1 : List S43) (l2 l3 : List Bool) (l4 : List Int) (l : List (List S48)) : (outR l0 l1 l2 l3 l4 l).1.length ≤ l.length ∧ ∀ j, ((outR l0 l1 l2 l3 l4 l).1.getD j []).length ≤ tot l l.length 0 := by
  unfold outR
  split
  · exact ⟨Nat.le_of_eq (rows_len ..), fun j => rows_each ..⟩
  · exact ⟨by simp, fun j => by simp⟩

theorem so_in (x : List (List S48)) (n : Int) (i : Nat) (hi : i < x.length) (hr : (x.getD i []).length ≤ 1048576) (H : E (fun k => serifref06_SameOutline.l0 k x x n (wrap64 ((i : Int) + 1))) true) : ∀ d j, j + d = (x.getD i []).length →
    E (fun k => serifref06_SameOutline.l1 k x x (i : Int) n (i : Int) ((x.getD i []).length : Int) (j : Int)) true
  | 0, j, h => by
    refine E.succ (fun k => ?_) H
    simp only [serifref06_SameOutline.l1]
    rw [if_neg (by omega)]
  | d + 1, j, h => by
    refine E.succ (fun k => ?_) (so_in x n i hi hr H d (j + 1) (by omega))
    simp only [serifref06_SameOutline.l1, rdL]
    rw [if_pos (by omega), if_pos (by omega), if_pos (by omega), if_pos (by omega), if_pos (by omega), if_pos (by omega), if_pos (by omega), if_neg (by simp), wn (by omega)]
theorem so_out (x : List (List S48)) (hx : x.length ≤ 1048576) (hr : ∀ j, (x.getD j []).length ≤ 1048576) : ∀ d i, i + d = x.length → E (fun k => serifref06_SameOutline.l0 k x x (x.length : Int) (i : Int)) true
  | 0, i, h => E.one (fun k => by
      simp only [serifref06_SameOutline.l0]
      rw [if_neg (by omega)])
  | d + 1, i, h => by
    refine E.succ (fun k => ?_) (so_in x (x.length : Int) i (by omega) (hr i) (by rw [wn (by omega)]; exact so_out x hx hr d (i + 1) (by omega)) (x.getD i []).length 0 (by omega))
    simp only [serifref06_SameOutline.l0, rdL]
    rw [if_pos (by omega), if_pos (by omega), if_pos (by omega), if_pos (by omega), if_pos trivial]
    rfl
theorem so_f (x : List (List S48)) (hx : x.length ≤ 1048576) (hr : ∀ j, (x.getD j []).length ≤ 1048576) : E (fun k => serifref06_SameOutline.f k x x) true :=
  E.congr (fun k => by unfold serifref06_SameOutline.f; rw [if_pos rfl]; rfl) (so_out x hx hr x.length 0 (by omega))

theorem law_j4 (l : List (List S48)) (l0 l1 : List S43) (l2 l3 : List Bool) (l4 : List Int) (b0 : l0.length < 8796093022208) (b1 : l1.length < 8796093022208) (b2 : l2.length < 140737488355328) (b3 : l3.length < 140737488355328) (b4 : l4.length < 17592186044416) (hb : l.length ≤ 1048576) (ht : tot l l.length 0 ≤ 1048576) :
    E (fun k => seriflaw09_GstateZones.j4 k l false l0 l1 l2 l3 l4) true := by
  obtain ⟨s0, s1⟩ := outR_small l0 l1 l2 l3 l4 l
  refine E.succ (h := fun k => (serifref09_Outline.f k l0 l1 l2 l3 l4 l).bind fun bt => (serifref06_Copy.f k l).bind fun t => (gstate_Outline.f k l0 l1 l2 l3 l4 t).bind fun bu => if bu.2 = bt.2 then ((serifref06_SameOutline.f k bu.1 bt.1).bind fun u => if u = true then some true else some false) else some false) (fun k => by
    simp only [seriflaw09_GstateZones.j4]
    rw [if_neg (by decide), copy_f l0 l1 l2 l3 l4 b0 b1 b2 b3 b4]
    rfl) ?_
  refine E.bind (rout l0 l1 l2 l3 l4 (by omega) l hb ht) (E.bind (copy6 l hb ht) (E.bind (gout l0 l1 l2 l3 l4 (by omega) l hb ht) ?_))
  exact E.congr (fun k => by rw [if_pos rfl]) (E.then (so_f _ (by omega) (fun j => Nat.le_trans (s1 j) ht)) E.of)
theorem law_j3 (l : List (List S48)) (l0 l1 : List S43) (l2 l3 : List Bool) (l4 : List Int) (b0 : l0.length < 8796093022208) (b1 : l1.length < 8796093022208) (b2 : l2.length < 140737488355328) (b3 : l3.length < 140737488355328) (b4 : l4.length < 17592186044416) (hb : l.length ≤ 1048576) (ht : tot l l.length 0 ≤ 1048576)
    (w0 w1 : List S43) (w2 w3 : List Bool) (w4 : List Int) (H : E (fun k => seriflaw09_GstateZones.j4 k l false w0 w1 w2 w3 w4) true) :
    E (fun k => seriflaw09_GstateZones.j3 k l false l0 l1 l2 l3 l4 w0 w1 w2 w3 w4) true := by
  obtain ⟨s0, s1⟩ := outR_small l0 l1 l2 l3 l4 l
  refine E.succ (h := fun k => (serifref09_Outline.f k l0 l1 l2 l3 l4 l).bind fun bt => (serifref06_Copy.f k l).bind fun t => (gstate_Outline.f k l0 l1 l2 l3 l4 t).bind fun bu => if bu.2 = bt.2 then ((serifref06_SameOutline.f k bu.1 bt.1).bind fun u => seriflaw09_GstateZones.j4 k l (!u) w0 w1 w2 w3 w4) else seriflaw09_GstateZones.j4 k l true w0 w1 w2 w3 w4) (fun k => by
    simp only [seriflaw09_GstateZones.j3]
    rw [if_neg (by decide), copy_f l0 l1 l2 l3 l4 b0 b1 b2 b3 b4]
    rfl) ?_
  refine E.bind (rout l0 l1 l2 l3 l4 (by omega) l hb ht) (E.bind (copy6 l hb ht) (E.bind (gout l0 l1 l2 l3 l4 (by omega) l hb ht) ?_))
  refine E.congr (fun k => by rw [if_pos rfl]) (E.bind (h := fun k u => seriflaw09_GstateZones.j4 k l (!u) w0 w1 w2 w3 w4) (so_f _ (by omega) (fun j => Nat.le_trans (s1 j) ht)) ?_)
  exact H

section
variable (l : List (List S48)) (z0 z1 : List S43) (z2 z3 : List Bool) (z4 : List Int) (v0 cur : List S43) (v2 v3 : List Bool) (v4 : List Int) (w0 : List S43) (w2 w3 : List Bool) (w4 : List Int)
theorem law_l1 (hcur : cur.length ≤ 1048576) (hS : E (fun k => serifref09_Same.f k v0 cur v2 v3 v4 w0 cur w2 w3 w4) true) (H : E (fun k => seriflaw09_GstateZones.j3 k l false z0 z1 z2 z3 z4 w0 cur w2 w3 w4) true) :
    ∀ (d i : Nat) (A0 T : List S43) (A2 A3 : List Bool) (A4 : List Int), i + d = 9 → T.length = i → A0.length ≤ 1048576 + i → A2.length ≤ 1048576 + i → A3.length ≤ 1048576 + i → A4.length ≤ 1048576 + i →
    E (fun k => seriflaw09_GstateZones.l1 k l (i : Int) z0 z1 z2 z3 z4 A0 (cur ++ T) A2 A3 A4 v0 cur v2 v3 v4 w0 cur w2 w3 w4) true
  | 0, i, A0, T, A2, A3, A4, h, hT, h0, h2, h3, h4 => by
    have hlen : (cur ++ T).length = cur.length + T.length := List.length_append
    have hS' : E (fun k => (serifref09_Same.f k v0 cur v2 v3 v4 w0 cur w2 w3 w4).bind fun t => seriflaw09_GstateZones.j3 k l (!t) z0 z1 z2 z3 z4 w0 cur w2 w3 w4) true :=
      E.bind (h := fun k t => seriflaw09_GstateZones.j3 k l (!t) z0 z1 z2 z3 z4 w0 cur w2 w3 w4) hS H
    refine E.succ (fun k => ?_) hS'
    simp only [seriflaw09_GstateZones.l1]
    rw [if_neg (by omega)]
    by_cases hp : 0 < cur.length
    · have e : rd_T43 (cur ++ T) 0 = rd_T43 cur 0 := by
        simp only [rd_T43, Int.toNat_zero, List.getD_eq_getElem?_getD]
        rw [List.getElem?_append_left hp]
      rw [if_pos (by omega), if_pos (by omega), if_pos (by omega), e, if_neg (by simp)]
    · rw [if_neg (by omega)]
  | d + 1, i, A0, T, A2, A3, A4, h, hT, h0, h2, h3, h4 => by
    have hlen : (cur ++ T).length = cur.length + T.length := List.length_append
    have ih := law_l1 hcur hS H d (i + 1) (A0 ++ [⟨9, 0⟩]) (T ++ [⟨8, 0⟩]) (A2 ++ [true]) (A3 ++ [true]) (A4 ++ [5]) (by omega) (by rw [List.length_append, List.length_singleton]; omega) (by rw [List.length_append, List.length_singleton]; omega) (by rw [List.length_append, List.length_singleton]; omega) (by rw [List.length_append, List.length_singleton]; omega) (by rw [List.length_append, List.length_singleton]; omega)
    refine E.succ (fun k => ?_) ih
    simp only [seriflaw09_GstateZones.l1]
    rw [if_pos (by omega), if_pos (by omega), if_pos (by omega), if_pos (by omega), if_pos (by omega), if_pos (by omega), wn (by omega), List.append_assoc]
theorem law_l0 (n : Nat) (hn : n ≤ 1048576) (r : Bool) (A1 : List S43) (A2 A3 : List Bool) (A4 : List Int) (u0 u1 : List S43) (u2 u3 : List Bool) (u4 : List Int) (x0 x1 : List S43) (x2 x3 : List Bool) (x4 : List Int)
    (H : ∀ A0 : List S43, A0.length = n → E (fun k => seriflaw09_GstateZones.l1 k l 0 z0 z1 z2 z3 z4 A0 A1 A2 A3 A4 u0 u1 u2 u3 u4 x0 x1 x2 x3 x4) r) :
    ∀ (d i : Nat) (A0 : List S43), i + d = n → A0.length = n → E (fun k => seriflaw09_GstateZones.l0 k l (n : Int) (i : Int) z0 z1 z2 z3 z4 A0 A1 A2 A3 A4 u0 u1 u2 u3 u4 x0 x1 x2 x3 x4) r
  | 0, i, A0, h, hA => by
    refine E.succ (fun k => ?_) (H A0 hA)
    simp only [seriflaw09_GstateZones.l0]
    rw [if_neg (by omega)]
  | d + 1, i, A0, h, hA => by
    refine E.succ (fun k => ?_) (law_l0 n hn r A1 A2 A3 A4 u0 u1 u2 u3 u4 x0 x1 x2 x3 x4 H d (i + 1) (A0.set ((i : Int)).toNat ⟨77, (rd_T43 A0 (i : Int)).f1⟩) (by omega) (by rw [List.length_set]; exact hA))
    simp only [seriflaw09_GstateZones.l0]
    rw [if_pos (by omega), if_pos (by omega), if_pos (by omega), wn (by omega)]
end

theorem GstateZones (l : List (List S48)) (z0 z1 : List S43) (z2 z3 : List Bool) (z4 : List Int) (hb : l.length ≤ 1048576) (ht : tot l l.length 0 ≤ 1048576) (b0 : z0.length ≤ 1048576) (b1 : z1.length ≤ 1048576) (b2 : z2.length ≤ 1048576) (b3 : z3.length ≤ 1048576) (b4 : z4.length ≤ 1048576) :
    ∃ k, seriflaw09_GstateZones.f k l z0 z1 z2 z3 z4 = some true := by
  have hO : (newO l l.length 0 []).length = tot l l.length 0 := by rw [newO_len]; simp
  have hE : (newE l l.length 0 [] []).length ≤ l.length := by have := newE_len l l.length 0 [] []; simpa using this
  have hR : (List.replicate (newO l l.length 0 []).length false).length = (newO l l.length 0 []).length := List.length_replicate
  have hSame := same_f (newO l l.length 0 []) (newO l l.length 0 []) (List.replicate (newO l l.length 0 []).length false) (List.replicate (newO l l.length 0 []).length false) (newE l l.length 0 [] []) (by omega) (by omega) (by omega) (by omega) (by omega)
  have hj4 := law_j4 l (newO l l.length 0 []) (newO l l.length 0 []) (List.replicate (newO l l.length 0 []).length false) (List.replicate (newO l l.length 0 []).length false) (newE l l.length 0 [] []) (by omega) (by omega) (by omega) (by omega) (by omega) hb ht
  have hj3 := law_j3 l z0 z1 z2 z3 z4 (by omega) (by omega) (by omega) (by omega) (by omega) hb ht _ _ _ _ _ hj4
  have hl1 := law_l1 l z0 z1 z2 z3 z4 (newO l l.length 0 []) (newO l l.length 0 []) (List.replicate (newO l l.length 0 []).length false) (List.replicate (newO l l.length 0 []).length false) (newE l l.length 0 [] []) (newO l l.length 0 []) (List.replicate (newO l l.length 0 []).length false) (List.replicate (newO l l.length 0 []).length false) (newE l l.length 0 [] []) (by omega) hSame hj3
  have hl0 := law_l0 l z0 z1 z2 z3 z4 (newO l l.length 0 []).length (by omega) true (newO l l.length 0 []) (List.replicate (newO l l.length 0 []).length false) (List.replicate (newO l l.length 0 []).length false) (newE l l.length 0 [] []) (newO l l.length 0 []) (newO l l.length 0 []) (List.replicate (newO l l.length 0 []).length false) (List.replicate (newO l l.length 0 []).length false) (newE l l.length 0 [] []) (newO l l.length 0 []) (newO l l.length 0 []) (List.replicate (newO l l.length 0 []).length false) (List.replicate (newO l l.length 0 []).length false) (newE l l.length 0 [] [])
    (fun A0 hA => by
      have := hl1 9 0 A0 [] (List.replicate (newO l l.length 0 []).length false) (List.replicate (newO l l.length 0 []).length false) (newE l l.length 0 [] []) (by omega) rfl (by omega) (by omega) (by omega) (by omega)
      rw [List.append_nil] at this
      exact this) (newO l l.length 0 []).length 0 (newO l l.length 0 []) (by omega) rfl
  refine E.ex ?_
  refine E.congr (h := fun k => (serifref06_Copy.f k l).bind fun t => (gstate_New.f k t).bind fun a => (serifref06_Copy.f k l).bind fun t2 => (gstate_New.f k t2).bind fun b => (serifref09_New.f k l).bind fun w => (serifref09_Same.f k a.1 a.2.1 a.2.2.1 a.2.2.2.1 a.2.2.2.2 w.1 w.2.1 w.2.2.1 w.2.2.2.1 w.2.2.2.2).bind fun s => if s = true then ((gstate_Sound.f k z0 z1 z2 z3 z4).bind fun p => (serifref09_Sound.f k z0 z1 z2 z3 z4).bind fun q => seriflaw09_GstateZones.j0 k l (p != q) z0 z1 z2 z3 z4 a.1 a.2.1 a.2.2.1 a.2.2.2.1 a.2.2.2.2 b.1 b.2.1 b.2.2.1 b.2.2.2.1 b.2.2.2.2 w.1 w.2.1 w.2.2.1 w.2.2.2.1 w.2.2.2.2) else (seriflaw09_GstateZones.j0 k l true z0 z1 z2 z3 z4 a.1 a.2.1 a.2.2.1 a.2.2.2.1 a.2.2.2.2 b.1 b.2.1 b.2.2.1 b.2.2.2.1 b.2.2.2.2 w.1 w.2.1 w.2.2.1 w.2.2.2.1 w.2.2.2.2)) (fun k => by
    unfold seriflaw09_GstateZones.f seriflaw09_gstateAlive.f
    simp only [Option.bind_some]
    rw [if_pos trivial, copy_f z0 z1 z2 z3 z4 (by omega) (by omega) (by omega) (by omega) (by omega)]
    rfl) ?_
  refine E.bind (copy6 l hb ht) (E.bind (gnew l hb ht) (E.bind (copy6 l hb ht) (E.bind (gnew l hb ht) (E.bind (rnew l hb ht) (E.bind hSame ?_)))))
  refine E.congr (fun k => by rw [if_pos rfl]) ?_
  refine E.bind (gsound z0 z1 z2 z3 z4 (by omega)) (E.bind (rsound z0 z1 z2 z3 z4 (by omega)) ?_)
  rw [bne_self_eq_false]
  refine E.succ (fun k => ?_) hl0
  simp only [seriflaw09_GstateZones.j0]
  rw [if_neg (by decide)]
  rfl
end Go.Proofs.Ytneiaobhjjbedaa.Pure2
