/- The two roundings of whole numbers, the program's and the document's, are the same: for every number of 64 bits and every way. -/
import Derived.Test.YtneiaobhjjbedaaRoundsRef
namespace Go.Proofs.Ytneiaobhjjbedaa.PGstateRounds
open Go.RowKit Go.Proofs.YtneiaobhjjbedaaW.PrintWords Go.Proofs.YtneiaobhjjbedaaW.PrintLast Go.Proofs.YtneiaobhjjbedaaW.PrintMore

theorem and_high (x k : Nat) (hk : k ≤ 64) (hx : x < 2 ^ 64) : x &&& ((2 ^ (64 - k) - 1) * 2 ^ k) = x / 2 ^ k * 2 ^ k := by
  apply Nat.eq_of_testBit_eq
  intro i
  rw [Nat.testBit_and, Nat.testBit_mul_two_pow, Nat.testBit_mul_two_pow, Nat.testBit_two_pow_sub_one, Nat.testBit_div_two_pow]
  by_cases h : k ≤ i
  · have e : i - k + k = i := by omega
    simp only [h, decide_true, Bool.true_and]
    by_cases h2 : i - k < 64 - k
    · simp [h2, e]
    · have : x.testBit i = false := Nat.testBit_lt_two_pow (Nat.lt_of_lt_of_le hx (Nat.pow_le_pow_right (by omega) (by omega)))
      simp [h2, e, this]
  · simp [h]

theorem wrap_i64_small (n : Int) (h0 : 0 ≤ n) (h1 : n < 9223372036854775808) : IntKind.i64.wrap n = n := by
  simp [IntKind.wrap, IntKind.bits, IntKind.signed]
  split <;> omega

theorem andNot63 (x : Int) (h0 : 0 ≤ x) (h1 : x < 9223372036854775808) : Go.bits .andNot .i64 x 63 = x / 64 * 64 := by
  obtain ⟨y, rfl⟩ := Int.eq_ofNat_of_zero_le h0
  show IntKind.i64.wrap ((BitVec.ofInt 64 (y : Int) &&& ~~~BitVec.ofInt 64 63).toNat : Int) = _
  have h2 : (~~~BitVec.ofInt 64 63).toNat = (2 ^ (64 - 6) - 1) * 2 ^ 6 := by decide
  have h3 : (BitVec.ofInt 64 (y : Int)).toNat = y := by simp; omega
  rw [BitVec.toNat_and, h2, h3, and_high y 6 (by omega) (by omega), wrap_i64_small _ (by omega) (by omega)]
  omega

theorem andNot31 (x : Int) (h0 : 0 ≤ x) (h1 : x < 9223372036854775808) : Go.bits .andNot .i64 x 31 = x / 32 * 32 := by
  obtain ⟨y, rfl⟩ := Int.eq_ofNat_of_zero_le h0
  show IntKind.i64.wrap ((BitVec.ofInt 64 (y : Int) &&& ~~~BitVec.ofInt 64 31).toNat : Int) = _
  have h2 : (~~~BitVec.ofInt 64 31).toNat = (2 ^ (64 - 5) - 1) * 2 ^ 5 := by decide
  have h3 : (BitVec.ofInt 64 (y : Int)).toNat = y := by simp; omega
  rw [BitVec.toNat_and, h2, h3, and_high y 5 (by omega) (by omega), wrap_i64_small _ (by omega) (by omega)]
  omega

/-- What both roundings give of a number from 0 on. -/
def rnd (n way : Int) : Int :=
  if way = 0 then (n + 32) / 64 * 64 else if way = 1 then n / 64 * 64 + 32 else if way = 2 then (n + 16) / 32 * 32 else if way = 3 then n / 64 * 64 else if way = 4 then (n + 63) / 64 * 64 else n

def rndAll (n way : Int) : Int := if n < -2147483647 ∨ n > 2147483647 then 0 else if n < 0 then -(rnd (-n) way) else rnd n way

theorem w64 {x : Int} (h0 : -9223372036854775808 ≤ x) (h1 : x < 9223372036854775808) : wrap64 x = x := by unfold wrap64; omega

theorem rnd_bounds {n : Int} (way : Int) (h0 : 0 ≤ n) (h1 : n ≤ 2147483647) : 0 ≤ rnd n way ∧ rnd n way ≤ 2147483711 := by
  unfold rnd
  repeat' split
  all_goals omega

theorem round_pos {k : Nat} {n way : Int} (h0 : 0 ≤ n) (h1 : n ≤ 2147483647) : gstate_Round.f (k + 1) n way = some (rnd n way) := by
  have hc : fixed_Check.f n = some 0 := by unfold fixed_Check.f; rw [if_neg (by omega), if_neg (by omega)]
  simp only [gstate_Round.f, hc, Option.bind_some, if_true]
  rw [if_neg (by omega), w64 (x := n + 32) (by omega) (by omega), w64 (x := n + 16) (by omega) (by omega), w64 (x := n + 63) (by omega) (by omega), andNot63 (n + 32) (by omega) (by omega), andNot63 n (by omega) (by omega),
    andNot31 (n + 16) (by omega) (by omega), andNot63 (n + 63) (by omega) (by omega), w64 (x := n / 64 * 64 + 32) (by omega) (by omega)]
  unfold rnd
  repeat' split
  all_goals rfl

theorem round_all (k : Nat) (n way : Int) : gstate_Round.f (k + 2) n way = some (rndAll n way) := by
  unfold rndAll
  by_cases hr : n < -2147483647 ∨ n > 2147483647
  · rw [if_pos hr]
    have hc : fixed_Check.f n = some 14 := by
      unfold fixed_Check.f
      rcases hr with h | h
      · rw [if_pos h]
      · by_cases h2 : n < -2147483647
        · rw [if_pos h2]
        · rw [if_neg h2, if_pos h]
    simp only [gstate_Round.f, hc, Option.bind_some]
    rw [if_neg (by decide)]
  · rw [if_neg hr]
    by_cases hn : n < 0
    · rw [if_pos hn]
      have hc : fixed_Check.f n = some 0 := by unfold fixed_Check.f; rw [if_neg (by omega), if_neg (by omega)]
      have hp := round_pos (k := k) (n := -n) (way := way) (by omega) (by omega)
      have hb := rnd_bounds (n := -n) way (by omega) (by omega)
      rw [gstate_Round.f]
      simp only [hc, Option.bind_some, if_true]
      rw [if_pos hn, w64 (x := -n) (by omega) (by omega), hp, Option.bind_some, w64 (by omega) (by omega)]
    · rw [if_neg hn]
      exact round_pos (by omega) (by omega)

theorem ref_pos {k : Nat} {n way : Int} (h0 : 0 ≤ n) (h1 : n ≤ 2147483647) : serifref09_Round.f (k + 1) n way = some (rnd n way) := by
  have hc : serifref01_Fix.f n = some true := by unfold serifref01_Fix.f; rw [if_pos (by omega)]; simp [h1]
  have t : ∀ m d : Int, 0 ≤ m → Int.tdiv m d = m / d := fun m d hm => Int.tdiv_eq_ediv_of_nonneg hm
  simp only [serifref09_Round.f, hc, Option.bind_some, if_true]
  rw [if_neg (by omega), w64 (x := n + 32) (by omega) (by omega), w64 (x := n + 16) (by omega) (by omega), w64 (x := n + 63) (by omega) (by omega), t _ _ (by omega), t _ _ (by omega), t _ _ (by omega), t _ _ (by omega)]
  rw [w64 (x := (n + 32) / 64) (by omega) (by omega), w64 (x := n / 64) (by omega) (by omega), w64 (x := (n + 16) / 32) (by omega) (by omega), w64 (x := (n + 63) / 64) (by omega) (by omega),
    w64 (x := (n + 32) / 64 * 64) (by omega) (by omega), w64 (x := n / 64 * 64) (by omega) (by omega), w64 (x := (n + 16) / 32 * 32) (by omega) (by omega), w64 (x := (n + 63) / 64 * 64) (by omega) (by omega), w64 (x := n / 64 * 64 + 32) (by omega) (by omega)]
  unfold rnd
  repeat' split
  all_goals rfl

theorem ref_all (k : Nat) (n way : Int) : serifref09_Round.f (k + 2) n way = some (rndAll n way) := by
  unfold rndAll
  by_cases hr : n < -2147483647 ∨ n > 2147483647
  · rw [if_pos hr]
    have hc : serifref01_Fix.f n = some false := by
      unfold serifref01_Fix.f
      by_cases h2 : n ≥ -2147483647
      · rw [if_pos h2]; simp; omega
      · rw [if_neg h2]
    simp only [serifref09_Round.f, hc, Option.bind_some]
    rw [if_neg (by decide)]
  · rw [if_neg hr]
    by_cases hn : n < 0
    · rw [if_pos hn]
      have hc : serifref01_Fix.f n = some true := by unfold serifref01_Fix.f; rw [if_pos (by omega)]; simp; omega
      have hp := ref_pos (k := k) (n := -n) (way := way) (by omega) (by omega)
      have hb := rnd_bounds (n := -n) way (by omega) (by omega)
      rw [serifref09_Round.f]
      simp only [hc, Option.bind_some, if_true]
      rw [if_pos hn, w64 (x := -n) (by omega) (by omega), hp, Option.bind_some, w64 (by omega) (by omega)]
    · rw [if_neg hn]
      exact ref_pos (by omega) (by omega)

end Go.Proofs.Ytneiaobhjjbedaa.PGstateRounds
