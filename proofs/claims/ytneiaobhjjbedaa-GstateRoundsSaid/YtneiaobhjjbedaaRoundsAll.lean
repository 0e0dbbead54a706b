/- The rounding law's walk for every two whole numbers of 64 bits: it returns true, given that the alive function does. -/
import Derived.Test.YtneiaobhjjbedaaRoundsPure
import Derived.Test.YtneiaobhjjbedaaRoundsWalk
namespace Go.Proofs.Ytneiaobhjjbedaa.PGstateRounds
set_option linter.unusedVariables false
set_option linter.unusedSimpArgs false
open Go.RowKit Go.Proofs.YtneiaobhjjbedaaW.PrintWords Go.Proofs.YtneiaobhjjbedaaW.PrintLast Go.Proofs.YtneiaobhjjbedaaW.PrintMore

theorem rnd_near (n way : Int) (h0 : 0 ≤ n) (h1 : n ≤ 2147483647) : -64 < rnd n way - n ∧ rnd n way - n < 64 := by
  unfold rnd
  repeat' split
  all_goals omega

theorem rnd_again (n way : Int) (h0 : 0 ≤ n) (h1 : n ≤ 2147483647) : rnd (rnd n way) way = rnd n way := by
  unfold rnd
  repeat' split
  all_goals omega

theorem rndAll_again (n way : Int) (h0 : -2147483647 ≤ n) (h1 : n ≤ 2147483647) (h2 : -2147483647 ≤ rndAll n way) (h3 : rndAll n way ≤ 2147483647) : rndAll (rndAll n way) way = rndAll n way := by
  by_cases hn : n < 0
  · have e : rndAll n way = -(rnd (-n) way) := by unfold rndAll; rw [if_neg (by omega), if_pos hn]
    have hb := rnd_bounds (n := -n) way (by omega) (by omega)
    have ha := rnd_again (-n) way (by omega) (by omega)
    rw [e] at h2 h3 ⊢
    by_cases hz : rnd (-n) way = 0
    · rw [hz] at ha ⊢
      unfold rndAll
      rw [if_neg (by omega), if_neg (by omega)]
      simpa using ha
    · unfold rndAll
      rw [if_neg (by omega), if_pos (by omega), Int.neg_neg, ha]
  · have e : rndAll n way = rnd n way := by unfold rndAll; rw [if_neg (by omega), if_neg hn]
    have hb := rnd_bounds (n := n) way (by omega) (by omega)
    have ha := rnd_again n way (by omega) (by omega)
    rw [e] at h2 h3 ⊢
    unfold rndAll
    rw [if_neg (by omega), if_neg (by omega), ha]

theorem fix_calls (n : Int) (b : Bool) (hb : serifref01_Fix.f n = some b) : ∀ (w : World), Calls Try.prog 15 #[.int .i64 n] w fun e w' => e = .returned (.bool b) ∧ Drawn0 w w' := fun w => serifref01_Fix.calls n b w hb

theorem rounds_walk (n way : Int) (w : World) (ha : ∀ w : World, Calls Try.prog 12 #[] w fun e W' => e = .returned (.bool true) ∧ Below w.heap.size w W') :
    Calls Try.prog 5 #[.int .i64 n, .int .i64 way] w fun e w' => e = .returned (.bool true) ∧ Below w.heap.size w w' := by
  have r1 := fun m w => gstate_Round.calls 2 m way (rndAll m way) w (round_all 0 m way)
  have r2 := fun w => serifref09_Round.calls 2 n way (rndAll n way) w (ref_all 0 n way)
  by_cases hr : n < -2147483647 ∨ n > 2147483647
  · have e : rndAll n way = 0 := by unfold rndAll; rw [if_pos hr]
    have hf : serifref01_Fix.f n = some false := by
      unfold serifref01_Fix.f
      by_cases h2 : n ≥ -2147483647
      · rw [if_pos h2]; simp; omega
      · rw [if_neg h2]
    exact walk_out n way w ha (fun w => by have := r1 n w; rwa [e] at this) (fun w => by have := r2 w; rwa [e] at this) (fix_calls n false hf)
  · have hf : serifref01_Fix.f n = some true := by unfold serifref01_Fix.f; rw [if_pos (by omega)]; simp; omega
    have hfix : ∀ m : Int, serifref01_Fix.f m = some (decide (-2147483647 ≤ m ∧ m ≤ 2147483647)) := by
      intro m
      unfold serifref01_Fix.f
      by_cases h2 : m ≥ -2147483647
      · rw [if_pos h2]; simp; omega
      · rw [if_neg h2]; simp; omega
    have hR := fix_calls (rndAll n way) _ (hfix (rndAll n way))
    by_cases hn : n < 0
    · have e : rndAll n way = -(rnd (-n) way) := by unfold rndAll; rw [if_neg hr, if_pos hn]
      have hb := rnd_bounds (n := -n) way (by omega) (by omega)
      have hd := rnd_near (-n) way (by omega) (by omega)
      have w1 : wrap64 (rndAll n way - n) = rndAll n way - n := w64 (by omega) (by omega)
      by_cases hx : -2147483647 ≤ rndAll n way ∧ rndAll n way ≤ 2147483647
      · rw [decide_eq_true hx] at hR
        have ea := rndAll_again n way (by omega) (by omega) hx.1 hx.2
        exact walk_neg_same n way _ w ha (r1 n) r2 (fix_calls n true hf) w1 (decide_eq_true (by omega)) (decide_eq_true (by omega)) (decide_eq_true hn) (decide_eq_true (by omega)) hR (fun w => by have := r1 (rndAll n way) w; rwa [ea] at this)
      · rw [decide_eq_false hx] at hR
        exact walk_neg_far n way _ w ha (r1 n) r2 (fix_calls n true hf) w1 (decide_eq_true (by omega)) (decide_eq_true (by omega)) (decide_eq_true hn) (decide_eq_true (by omega)) hR
    · have e : rndAll n way = rnd n way := by unfold rndAll; rw [if_neg hr, if_neg hn]
      have hb := rnd_bounds (n := n) way (by omega) (by omega)
      have hd := rnd_near n way (by omega) (by omega)
      have w1 : wrap64 (rndAll n way - n) = rndAll n way - n := w64 (by omega) (by omega)
      by_cases hx : -2147483647 ≤ rndAll n way ∧ rndAll n way ≤ 2147483647
      · rw [decide_eq_true hx] at hR
        have ea := rndAll_again n way (by omega) (by omega) hx.1 hx.2
        exact walk_pos_same n way _ w ha (r1 n) r2 (fix_calls n true hf) w1 (decide_eq_true (by omega)) (decide_eq_true (by omega)) (decide_eq_false hn) (decide_eq_true (by omega)) (decide_eq_true (by omega)) hR (fun w => by have := r1 (rndAll n way) w; rwa [ea] at this)
      · rw [decide_eq_false hx] at hR
        exact walk_pos_far n way _ w ha (r1 n) r2 (fix_calls n true hf) w1 (decide_eq_true (by omega)) (decide_eq_true (by omega)) (decide_eq_false hn) (decide_eq_true (by omega)) (decide_eq_true (by omega)) hR

end Go.Proofs.Ytneiaobhjjbedaa.PGstateRounds
