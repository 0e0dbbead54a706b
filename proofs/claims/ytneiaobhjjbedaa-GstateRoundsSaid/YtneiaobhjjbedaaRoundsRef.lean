/- Contracts of two functions of the document's side of the roundings (as the kit's printer wrote them): no condition but an answer of the plain function. -/
import Derived.Test.YtneiaobhjjbedaaPGstateRoundsx1
namespace Go.Proofs.Ytneiaobhjjbedaa.PGstateRounds
open Go.RowKit Go.Proofs.YtneiaobhjjbedaaW.PrintWords Go.Proofs.YtneiaobhjjbedaaW.PrintLast Go.Proofs.YtneiaobhjjbedaaW.PrintMore
attribute [local go_sem] max2_int min2_int max_two min_two max_three min_three max_four min_four   -- for this text's walks alone
set_option linter.unusedVariables false
set_option linter.unusedSimpArgs false

/-! ### serifref01_Fix: function 15 -/
def serifref01_Fix.f (a0 : Int) : Option (Bool) := if a0 ≥ (-2147483647) then (some (decide (a0 ≤ 2147483647))) else (some false)
set_option maxHeartbeats 8000000 in
set_option maxRecDepth 100000 in
theorem serifref01_Fix.calls (a0 : Int) (r : Bool) (w : World) (h : serifref01_Fix.f a0 = some r) :
    Calls Try.prog 15 #[.int .i64 a0] w fun e w' => e = .returned (.bool r) ∧ Drawn0 w w' := by
  have H : (if a0 ≥ (-2147483647) then (some (decide (a0 ≤ 2147483647))) else (some false)) = some r := h
  clear h
  by_cases c2 : a0 ≥ (-2147483647)
  · rw [if_pos c2] at H
    have c2b0 : decide ((-2147483647) ≤ a0) = true := decide_eq_true c2
    clear c2
    obtain rfl := Option.some.inj H
    go_enter Try.func15, Try.ntmps15
    go_wp2
    go_ret
    exact ⟨by first | rfl | (simp; done) | (simp [*]; done), by repeat (first | exact Drawn0.refl _ | apply Drawn0.step)⟩
  · rw [if_neg c2] at H
    have c2b0 : decide ((-2147483647) ≤ a0) = false := decide_eq_false c2
    clear c2
    obtain rfl := Option.some.inj H
    go_enter Try.func15, Try.ntmps15
    go_wp2
    go_ret
    exact ⟨by first | rfl | (simp; done) | (simp [*]; done), by repeat (first | exact Drawn0.refl _ | apply Drawn0.step)⟩

/-! ### serifref09_Round: function 14 -/
def serifref09_Round.f : Nat → Int → Int → Option (Int)
  | 0, _, _ => none
  | k + 1, a0, a1 => (serifref01_Fix.f a0).bind fun t165 => (if t165 = true then (if a0 < 0 then ((serifref09_Round.f k (wrap64 (-a0)) a1).bind fun t166 => (some (wrap64 (-t166)))) else (if a1 = 0 then (some (wrap64 ((wrap64 (Int.tdiv (wrap64 (a0 + 32)) 64)) * 64))) else (if a1 = 1 then (some (wrap64 ((wrap64 ((wrap64 (Int.tdiv a0 64)) * 64)) + 32))) else (if a1 = 2 then (some (wrap64 ((wrap64 (Int.tdiv (wrap64 (a0 + 16)) 32)) * 32))) else (if a1 = 3 then (some (wrap64 ((wrap64 (Int.tdiv a0 64)) * 64))) else (if a1 = 4 then (some (wrap64 ((wrap64 (Int.tdiv (wrap64 (a0 + 63)) 64)) * 64))) else (some a0))))))) else (some 0))
theorem serifref09_Round.mono_l : ∀ k, (∀ y0 y1, LeO (serifref09_Round.f k y0 y1) (serifref09_Round.f (k + 1) y0 y1))
  | 0 => fun _ _ r h => by simp [serifref09_Round.f] at h
  | k + 1 => by
    have ih0 := serifref09_Round.mono_l k
    · intro y0 y1
      unfold serifref09_Round.f
      repeat' first
      | (with_reducible exact ih0 _ _)
      | (with_reducible exact LeO.refl _)
      | (with_reducible exact LeO.none _)
      | (with_reducible refine LeO.ite ?_ ?_)
      | (with_reducible refine LeO.bind ?_ (fun _ => ?_))
      | exact ih0 _ _
      | exact LeO.none _
      | refine LeO.ite ?_ ?_
      | refine LeO.bind ?_ (fun _ => ?_)
theorem serifref09_Round.mono : ∀ a0 a1 k, LeO (serifref09_Round.f k a0 a1) (serifref09_Round.f (k + 1) a0 a1) := by
  intro a0 a1 k
  have ih0 := serifref09_Round.mono_l k
  exact ih0 a0 a1
set_option maxHeartbeats 8000000 in
set_option maxRecDepth 100000 in
theorem serifref09_Round.calls (k : Nat) : ∀ (a0 : Int) (a1 : Int) (r : Int) (w : World) (h : serifref09_Round.f k a0 a1 = some r),
    Calls Try.prog 14 #[.int .i64 a0, .int .i64 a1] w fun e w' => e = .returned (.int .i64 r) ∧ Drawn0 w w' := by
  induction k using Nat.strongRecOn with
  | _ k ih =>
  intro a0 a1 r w h
  cases k with
  | zero => exact absurd h (by simp [serifref09_Round.f])
  | succ k =>
  simp only [serifref09_Round.f] at h
  have H : ((serifref01_Fix.f a0).bind fun t165 => (if t165 = true then (if a0 < 0 then ((serifref09_Round.f k (wrap64 (-a0)) a1).bind fun t166 => (some (wrap64 (-t166)))) else (if a1 = 0 then (some (wrap64 ((wrap64 (Int.tdiv (wrap64 (a0 + 32)) 64)) * 64))) else (if a1 = 1 then (some (wrap64 ((wrap64 ((wrap64 (Int.tdiv a0 64)) * 64)) + 32))) else (if a1 = 2 then (some (wrap64 ((wrap64 (Int.tdiv (wrap64 (a0 + 16)) 32)) * 32))) else (if a1 = 3 then (some (wrap64 ((wrap64 (Int.tdiv a0 64)) * 64))) else (if a1 = 4 then (some (wrap64 ((wrap64 (Int.tdiv (wrap64 (a0 + 63)) 64)) * 64))) else (some a0))))))) else (some 0))) = some r := h
  clear h
  replace H := Option.bind_eq_some_iff.mp H
  obtain ⟨t165, A30, H⟩ := H
  replace H : (if t165 = true then (if a0 < 0 then ((serifref09_Round.f k (wrap64 (-a0)) a1).bind fun t166 => (some (wrap64 (-t166)))) else (if a1 = 0 then (some (wrap64 ((wrap64 (Int.tdiv (wrap64 (a0 + 32)) 64)) * 64))) else (if a1 = 1 then (some (wrap64 ((wrap64 ((wrap64 (Int.tdiv a0 64)) * 64)) + 32))) else (if a1 = 2 then (some (wrap64 ((wrap64 (Int.tdiv (wrap64 (a0 + 16)) 32)) * 32))) else (if a1 = 3 then (some (wrap64 ((wrap64 (Int.tdiv a0 64)) * 64))) else (if a1 = 4 then (some (wrap64 ((wrap64 (Int.tdiv (wrap64 (a0 + 63)) 64)) * 64))) else (some a0))))))) else (some 0)) = some r := H
  have A3 := Aside0.mk A30
  clear A30
  by_cases c4 : t165 = true
  · subst c4
    have H1 : (if a0 < 0 then ((serifref09_Round.f k (wrap64 (-a0)) a1).bind fun t166 => (some (wrap64 (-t166)))) else (if a1 = 0 then (some (wrap64 ((wrap64 (Int.tdiv (wrap64 (a0 + 32)) 64)) * 64))) else (if a1 = 1 then (some (wrap64 ((wrap64 ((wrap64 (Int.tdiv a0 64)) * 64)) + 32))) else (if a1 = 2 then (some (wrap64 ((wrap64 (Int.tdiv (wrap64 (a0 + 16)) 32)) * 32))) else (if a1 = 3 then (some (wrap64 ((wrap64 (Int.tdiv a0 64)) * 64))) else (if a1 = 4 then (some (wrap64 ((wrap64 (Int.tdiv (wrap64 (a0 + 63)) 64)) * 64))) else (some a0))))))) = some r := by rw [if_pos rfl] at H; exact H
    clear H
    have H := H1
    clear H1
    by_cases c5 : a0 < 0
    · rw [if_pos c5] at H
      have c5b0 : decide (a0 < 0) = true := decide_eq_true c5
      clear c5
      replace H := Option.bind_eq_some_iff.mp H
      obtain ⟨t166, A60, H⟩ := H
      replace H : (some (wrap64 (-t166))) = some r := H
      have A6 := Aside0.mk A60
      clear A60
      obtain rfl := Option.some.inj H
      go_enter Try.func14, Try.ntmps14
      go_wp2_with (first | ((with_reducible refine gate_callee (f := 15) rfl ?_); refine goesL_ (some 6) rfl rfl Try.func15 (by kernel_rfl) rfl #[.int .i64 a0] rfl (by (try simp only [List.map_toArray, List.map_cons, List.map_nil]); first | done | rfl | (simp only [List.length_drop, List.length_take]; rfl)) ?_; (with_reducible refine (serifref01_Fix.calls a0 true _ A3.out).mono ?_); rintro e w' ⟨rfl, ⟨nd, rfl⟩⟩; refine ⟨_, rfl, ?_⟩) | ((with_reducible refine gate_callee (f := 14) rfl ?_); refine goesL_ (some 13) rfl rfl Try.func14 (by kernel_rfl) rfl #[.int .i64 (wrap64 (-a0)), .int .i64 a1] rfl (by (try simp only [List.map_toArray, List.map_cons, List.map_nil]); first | done | rfl | (simp only [List.length_drop, List.length_take]; rfl)) ?_; (with_reducible refine (ih k (by omega) (wrap64 (-a0)) a1 t166 _ A6.out).mono ?_); rintro e w' ⟨rfl, ⟨nd, rfl⟩⟩; refine ⟨_, rfl, ?_⟩))
      go_ret
      exact ⟨by first | rfl | (simp; done) | (simp [*]; done), by repeat (first | exact Drawn0.refl _ | apply Drawn0.step)⟩
    · rw [if_neg c5] at H
      have c5b0 : decide (a0 < 0) = false := decide_eq_false c5
      clear c5
      by_cases c7 : a1 = 0
      · rw [if_pos c7] at H
        have c7b0 : (a1 == 0) = true := beq_iff_eq.mpr c7
        have c7b1 : (a1 != 0) = false := bne_eq_false_iff_eq.mpr c7
        clear c7
        obtain rfl := Option.some.inj H
        go_enter Try.func14, Try.ntmps14
        go_wp2_with (first | ((with_reducible refine gate_callee (f := 15) rfl ?_); refine goesL_ (some 6) rfl rfl Try.func15 (by kernel_rfl) rfl #[.int .i64 a0] rfl (by (try simp only [List.map_toArray, List.map_cons, List.map_nil]); first | done | rfl | (simp only [List.length_drop, List.length_take]; rfl)) ?_; (with_reducible refine (serifref01_Fix.calls a0 true _ A3.out).mono ?_); rintro e w' ⟨rfl, ⟨nd, rfl⟩⟩; refine ⟨_, rfl, ?_⟩))
        go_ret
        exact ⟨by first | rfl | (simp; done) | (simp [*]; done), by repeat (first | exact Drawn0.refl _ | apply Drawn0.step)⟩
      · rw [if_neg c7] at H
        have c7b0 : (a1 == 0) = false := beq_eq_false_iff_ne.mpr c7
        have c7b1 : (a1 != 0) = true := bne_iff_ne.mpr c7
        by_cases c8 : a1 = 1
        · rw [if_pos c8] at H
          have c8b0 : (a1 == 1) = true := beq_iff_eq.mpr c8
          have c8b1 : (a1 != 1) = false := bne_eq_false_iff_eq.mpr c8
          clear c8
          obtain rfl := Option.some.inj H
          go_enter Try.func14, Try.ntmps14
          go_wp2_with (first | ((with_reducible refine gate_callee (f := 15) rfl ?_); refine goesL_ (some 6) rfl rfl Try.func15 (by kernel_rfl) rfl #[.int .i64 a0] rfl (by (try simp only [List.map_toArray, List.map_cons, List.map_nil]); first | done | rfl | (simp only [List.length_drop, List.length_take]; rfl)) ?_; (with_reducible refine (serifref01_Fix.calls a0 true _ A3.out).mono ?_); rintro e w' ⟨rfl, ⟨nd, rfl⟩⟩; refine ⟨_, rfl, ?_⟩))
          go_ret
          exact ⟨by first | rfl | (simp; done) | (simp [*]; done), by repeat (first | exact Drawn0.refl _ | apply Drawn0.step)⟩
        · rw [if_neg c8] at H
          have c8b0 : (a1 == 1) = false := beq_eq_false_iff_ne.mpr c8
          have c8b1 : (a1 != 1) = true := bne_iff_ne.mpr c8
          by_cases c9 : a1 = 2
          · rw [if_pos c9] at H
            have c9b0 : (a1 == 2) = true := beq_iff_eq.mpr c9
            have c9b1 : (a1 != 2) = false := bne_eq_false_iff_eq.mpr c9
            clear c9
            obtain rfl := Option.some.inj H
            go_enter Try.func14, Try.ntmps14
            go_wp2_with (first | ((with_reducible refine gate_callee (f := 15) rfl ?_); refine goesL_ (some 6) rfl rfl Try.func15 (by kernel_rfl) rfl #[.int .i64 a0] rfl (by (try simp only [List.map_toArray, List.map_cons, List.map_nil]); first | done | rfl | (simp only [List.length_drop, List.length_take]; rfl)) ?_; (with_reducible refine (serifref01_Fix.calls a0 true _ A3.out).mono ?_); rintro e w' ⟨rfl, ⟨nd, rfl⟩⟩; refine ⟨_, rfl, ?_⟩))
            go_ret
            exact ⟨by first | rfl | (simp; done) | (simp [*]; done), by repeat (first | exact Drawn0.refl _ | apply Drawn0.step)⟩
          · rw [if_neg c9] at H
            have c9b0 : (a1 == 2) = false := beq_eq_false_iff_ne.mpr c9
            have c9b1 : (a1 != 2) = true := bne_iff_ne.mpr c9
            by_cases c10 : a1 = 3
            · rw [if_pos c10] at H
              have c10b0 : (a1 == 3) = true := beq_iff_eq.mpr c10
              have c10b1 : (a1 != 3) = false := bne_eq_false_iff_eq.mpr c10
              clear c10
              obtain rfl := Option.some.inj H
              go_enter Try.func14, Try.ntmps14
              go_wp2_with (first | ((with_reducible refine gate_callee (f := 15) rfl ?_); refine goesL_ (some 6) rfl rfl Try.func15 (by kernel_rfl) rfl #[.int .i64 a0] rfl (by (try simp only [List.map_toArray, List.map_cons, List.map_nil]); first | done | rfl | (simp only [List.length_drop, List.length_take]; rfl)) ?_; (with_reducible refine (serifref01_Fix.calls a0 true _ A3.out).mono ?_); rintro e w' ⟨rfl, ⟨nd, rfl⟩⟩; refine ⟨_, rfl, ?_⟩))
              go_ret
              exact ⟨by first | rfl | (simp; done) | (simp [*]; done), by repeat (first | exact Drawn0.refl _ | apply Drawn0.step)⟩
            · rw [if_neg c10] at H
              have c10b0 : (a1 == 3) = false := beq_eq_false_iff_ne.mpr c10
              have c10b1 : (a1 != 3) = true := bne_iff_ne.mpr c10
              by_cases c11 : a1 = 4
              · rw [if_pos c11] at H
                have c11b0 : (a1 == 4) = true := beq_iff_eq.mpr c11
                have c11b1 : (a1 != 4) = false := bne_eq_false_iff_eq.mpr c11
                clear c11
                obtain rfl := Option.some.inj H
                go_enter Try.func14, Try.ntmps14
                go_wp2_with (first | ((with_reducible refine gate_callee (f := 15) rfl ?_); refine goesL_ (some 6) rfl rfl Try.func15 (by kernel_rfl) rfl #[.int .i64 a0] rfl (by (try simp only [List.map_toArray, List.map_cons, List.map_nil]); first | done | rfl | (simp only [List.length_drop, List.length_take]; rfl)) ?_; (with_reducible refine (serifref01_Fix.calls a0 true _ A3.out).mono ?_); rintro e w' ⟨rfl, ⟨nd, rfl⟩⟩; refine ⟨_, rfl, ?_⟩))
                go_ret
                exact ⟨by first | rfl | (simp; done) | (simp [*]; done), by repeat (first | exact Drawn0.refl _ | apply Drawn0.step)⟩
              · rw [if_neg c11] at H
                have c11b0 : (a1 == 4) = false := beq_eq_false_iff_ne.mpr c11
                have c11b1 : (a1 != 4) = true := bne_iff_ne.mpr c11
                obtain rfl := Option.some.inj H
                go_enter Try.func14, Try.ntmps14
                go_wp2_with (first | ((with_reducible refine gate_callee (f := 15) rfl ?_); refine goesL_ (some 6) rfl rfl Try.func15 (by kernel_rfl) rfl #[.int .i64 a0] rfl (by (try simp only [List.map_toArray, List.map_cons, List.map_nil]); first | done | rfl | (simp only [List.length_drop, List.length_take]; rfl)) ?_; (with_reducible refine (serifref01_Fix.calls a0 true _ A3.out).mono ?_); rintro e w' ⟨rfl, ⟨nd, rfl⟩⟩; refine ⟨_, rfl, ?_⟩))
                go_ret
                exact ⟨by first | rfl | (simp; done) | (simp [*]; done), by repeat (first | exact Drawn0.refl _ | apply Drawn0.step)⟩
  · replace c4 := Bool.eq_false_iff.mpr c4
    subst c4
    have H1 : (some 0) = some r := by rw [if_neg (show ¬ (false = true) by decide)] at H; exact H
    clear H
    have H := H1
    clear H1
    obtain rfl := Option.some.inj H
    go_enter Try.func14, Try.ntmps14
    go_wp2_with (first | ((with_reducible refine gate_callee (f := 15) rfl ?_); refine goesL_ (some 6) rfl rfl Try.func15 (by kernel_rfl) rfl #[.int .i64 a0] rfl (by (try simp only [List.map_toArray, List.map_cons, List.map_nil]); first | done | rfl | (simp only [List.length_drop, List.length_take]; rfl)) ?_; (with_reducible refine (serifref01_Fix.calls a0 false _ A3.out).mono ?_); rintro e w' ⟨rfl, ⟨nd, rfl⟩⟩; refine ⟨_, rfl, ?_⟩))
    go_ret
    exact ⟨by first | rfl | (simp; done) | (simp [*]; done), by repeat (first | exact Drawn0.refl _ | apply Drawn0.step)⟩


end Go.Proofs.Ytneiaobhjjbedaa.PGstateRounds
