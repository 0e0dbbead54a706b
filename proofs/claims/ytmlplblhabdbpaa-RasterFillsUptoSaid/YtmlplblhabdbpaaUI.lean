/- A part of the proof: rules for walking code over the evaluator, and what the functions that were walked come to: no condition but those that each theorem states. -/
import Derived.Test.YtmlplblhabdbpaaUH
set_option linter.unusedVariables false
set_option linter.unusedSimpArgs false
namespace Go.Proofs.Ytmlplblhabdbpaa
open Go.Ab
variable {X : CallE} {ro : Nat}
set_option maxRecDepth 10000
set_option linter.unusedVariables false
set_option linter.unusedSimpArgs false
def rowsD (l : List De) (j0 lo : Int) (n : Nat) : Nat → Int
  | 0 => 0
  | m + 1 => rowsD l j0 lo n m + cnt lo n (fun i => decide (windD l i (j0 + m) ≠ 0))
theorem rowsD_bd {l : List De} {j0 lo : Int} {n : Nat} : ∀ m : Nat, 0 ≤ rowsD l j0 lo n m ∧ rowsD l j0 lo n m ≤ m * n
  | 0 => ⟨Int.le_refl _, by simp [rowsD]⟩
  | m + 1 => by
    have h1 := rowsD_bd (l := l) (j0 := j0) (lo := lo) (n := n) m
    have h2 := cnt_bd (lo := lo) (P := fun i => decide (windD l i (j0 + m) ≠ 0)) n
    simp only [rowsD]
    push_cast
    rw [Int.add_mul, Int.one_mul]
    omega
theorem rowsD_nil {j0 lo : Int} {n : Nat} : ∀ m : Nat, rowsD [] j0 lo n m = 0
  | 0 => rfl
  | m + 1 => by
    simp only [rowsD]
    rw [rowsD_nil m, cnt_congr (Q := fun _ => false) fun i _ _ => by simp [windD], cnt_none]; rfl
def cellsD (p : List (List Spt)) (x y : Int) : Int := rowsD (edgesD (64 * y) (64 * y + 64) p) (64 * y) (64 * x) 64 64
theorem edgesD_ok {p : List (List Spt)} (h : wideM p = false) {j0 j1 : Int} : ∀ e ∈ edgesD j0 j1 p, okD e := by
  intro e he
  unfold edgesD at he
  obtain ⟨c, hc, he⟩ := List.mem_flatMap.mp he
  obtain ⟨i, hi, he⟩ := List.mem_flatMap.mp he
  have hi := List.mem_range.mp hi
  have hm : (i + 1) % c.length < c.length := Nat.mod_lt _ (by omega)
  have g : ∀ k, k < c.length → okS (c.getD k (0, 0)) := fun k hk => by
    rw [List.getD_eq_getElem?_getD, List.getElem?_eq_getElem hk]
    exact wide_ok h c hc _ (List.getElem_mem hk)
  unfold edgeDs at he
  split at he
  · rw [List.mem_singleton.mp he]; exact ⟨g _ hi, g _ hm⟩
  · cases he

set_option maxHeartbeats 1000000 in
/-- serifref21.Cells. -/
theorem cellsD_sp {s : St} {H : Hp} {A : Option Addr} {cp : Nat} {p : List (List Spt)} {x y : Int} (hX : OwnX X) (hM : Models ro s H) (hp : PolyH H A p) (hb : p.length ≤ 1000000000000) (hbig : totM p ≤ 16384) (hw : wideM p = false) (hx : -16777216 ≤ x ∧ x ≤ 16777216) (hy : -16777216 ≤ y ∧ y ≤ 16777216) :
    Sp X Try.prog ro 29 [.slice A p.length cp, .int .i64 x, .int .i64 y] s fun r H' => r = .int .i64 (cellsD p x y) ∧ Ext H H' := by
  refine Sp.of_body (hX _ _ _ (by decide) (by decide) (by decide) (by decide)) Try.func29 rfl Try.ntmps29 (by simp) ?_
  refine WC.seq ?_
  refine WC.region ?_
  refine WO.cons (SV.assignV (by constructor) ?_) (by decide)
  refine WO.nil ?_
  refine WC.seq ?_
  refine WC.region ?_
  refine WO.cons (SV.moveV (by constructor) ?_) (by decide)
  refine WO.cons (SV.moveV (by constructor) ?_) (by decide)
  refine WO.cons (SV.mul64 rfl rfl (by omega) ?_) (by decide)
  refine WO.cons (SV.moveV (by constructor) ?_) (by decide)
  refine WO.cons (SV.mul64 rfl rfl (by omega) ?_) (by decide)
  refine WO.cons (SV.add64 rfl rfl (by omega) ?_) (by decide)
  refine WO.cons ?_ (by decide)
  refine SV.callM rfl rfl (edgesD_sp hX hM hp hb hbig) ?_
  rintro v s1 H1 hn1 hM1 ⟨hv1, hE1, hf1⟩
  have hll := edgesD_len (64 * y) (64 * y + 64) p
  have hlok := edgesD_ok hw (j0 := 64 * y) (j1 := 64 * y + 64)
  refine WO.cons (SV.assign ?_) (by decide)
  refine WO.nil ?_
  unfold cellsD
  generalize edgesD (64 * y) (64 * y + 64) p = l at *
  refine WC.seq ?_
  refine WC.region ?_
  refine WO.cons (SV.assignV (by constructor) ?_) (by decide)
  refine WO.nil ?_
  refine WC.seq (WC.seq ?_)
  refine WC.region ?_
  refine WO.cons (SV.moveV (by constructor) ?_) (by decide)
  refine WO.cons (SV.mul64 rfl rfl (by omega) ?_) (by decide)
  refine WO.cons (SV.assignV (by constructor) ?_) (by decide)
  refine WO.nil ?_
  refine WC.block ?_
  refine WC.loop (D := Nat) (fun m => [(1, .int .i64 x), (2, .int .i64 y), (7, v), (8, .int .i64 (rowsD l (64 * y) (64 * x) 64 m)), (9, .int .i64 (64 * y + m))])
    (fun m s2 => s.next ≤ s2.next ∧ Models ro s2 H1 ∧ m ≤ 64) (fun m => 64 - m) 0 ?_ ⟨by omega, hM1, Nat.zero_le _⟩ ?_
  · refine ⟨rfl, rfl, rfl, rfl, ?_, trivial⟩
    show some (Value.int .i64 (64 * y)) = some (Value.int .i64 (64 * y + ((0 : Nat) : Int)))
    simp
  rintro m g s2 ⟨hn2, hM2, hm⟩
  have hbd := rowsD_bd (l := l) (j0 := 64 * y) (lo := 64 * x) (n := 64) m
  obtain ⟨n0, hn0⟩ : ∃ n0, n0 = rowsD l (64 * y) (64 * x) 64 m := ⟨_, rfl⟩
  rw [← hn0] at hbd
  obtain ⟨j, hj⟩ : ∃ j, j = 64 * y + (m : Int) := ⟨_, rfl⟩
  rw [← hn0, ← hj]
  by_cases hgo : m < 64 ∧ 0 < l.length
  · have hd1 : decide (j < 64 * y + 64) = true := decide_eq_true (by omega)
    have hd2 : decide ((0 : Int) < (l.length : Int)) = true := decide_eq_true (by omega)
    refine WC.seq (WC.seq ?_)
    refine WC.region ?_
    refine WO.cons (SV.moveV (by constructor) ?_) (by decide)
    refine WO.cons (SV.moveV (by constructor) ?_) (by decide)
    refine WO.cons (SV.mul64 rfl rfl (by omega) ?_) (by decide)
    refine WO.cons (SV.add64 rfl rfl (by omega) ?_) (by decide)
    refine WO.cons (SV.lss rfl rfl ?_) (by decide)
    refine WO.cons (SV.moveV (by constructor) ?_) (by decide)
    refine WO.guardY rfl rfl rfl (by assumption) (SV.move ?_) (by decide)
    all_goals (refine WO.guardY rfl rfl rfl (by assumption) (SV.lenO rfl rfl (by assumption) ?_) (by decide))
    all_goals (refine WO.guardY rfl rfl rfl (by assumption) (SV.gtr rfl rfl ?_) (by decide))
    all_goals (refine WO.cons (SV.pickTV rfl (by assumption) (by constructor) ?_) (by decide))
    all_goals refine WO.nil ?_
    refine WC.condT rfl (by assumption) (WC.skip (WC.seq (WC.block (WC.seq ?_))))
    refine WC.region ?_
    refine WO.cons (SV.moveV (by constructor) ?_) (by decide)
    refine WO.cons (SV.mul64 rfl rfl (by omega) ?_) (by decide)
    refine WO.cons (SV.assignV (by constructor) ?_) (by decide)
    refine WO.nil ?_
    refine WC.block ?_
    refine WC.loop (D := Nat) (fun k => [(1, .int .i64 x), (2, .int .i64 y), (7, v), (8, .int .i64 (n0 + cnt (64 * x) k (fun i => decide (windD l i j ≠ 0)))), (9, .int .i64 j), (10, .int .i64 (64 * x + k))])
      (fun k s3 => s.next ≤ s3.next ∧ Models ro s3 H1 ∧ k ≤ 64) (fun k => 64 - k) 0 ?_ ⟨hn2, hM2, Nat.zero_le _⟩ ?_
    · refine ⟨rfl, rfl, rfl, ?_, rfl, ?_, trivial⟩
      · show some (Value.int .i64 n0) = some (Value.int .i64 (n0 + 0))
        rw [Int.add_zero]
      · show some (Value.int .i64 (64 * x)) = some (Value.int .i64 (64 * x + ((0 : Nat) : Int)))
        simp
    rintro k g s3 ⟨hn3, hM3, hk⟩
    have hcb := cnt_bd (lo := 64 * x) (P := fun i => decide (windD l i j ≠ 0)) k
    obtain ⟨i, hi⟩ : ∃ i, i = 64 * x + (k : Int) := ⟨_, rfl⟩
    rw [← hi]
    have hstep : n0 + cnt (64 * x) (k + 1) (fun i => decide (windD l i j ≠ 0)) = n0 + cnt (64 * x) k (fun i => decide (windD l i j ≠ 0)) + (if windD l i j ≠ 0 then 1 else 0) := by
      simp only [cnt]; rw [← hi]; simp only [decide_eq_true_eq]; omega
    obtain ⟨n1, hn1'⟩ : ∃ n1, n1 = n0 + cnt (64 * x) k (fun i => decide (windD l i j ≠ 0)) := ⟨_, rfl⟩
    rw [← hn1'] at hstep ⊢
    refine WC.seq (WC.seq ?_)
    refine WC.region ?_
    refine WO.cons (SV.moveV (by constructor) ?_) (by decide)
    refine WO.cons (SV.moveV (by constructor) ?_) (by decide)
    refine WO.cons (SV.mul64 rfl rfl (by omega) ?_) (by decide)
    refine WO.cons (SV.add64 rfl rfl (by omega) ?_) (by decide)
    refine WO.cons (SV.lss rfl rfl ?_) (by decide)
    refine WO.nil ?_
    refine WC.condD rfl (fun hlt hltb => ?_) (fun hlt hltb => ?_)
    · refine WC.skip (WC.seq (WC.block (WC.seq ?_)))
      refine WC.region ?_
      refine WO.cons (SV.move ?_) (by decide)
      refine WO.cons (SV.moveV (by constructor) ?_) (by decide)
      refine WO.cons (SV.moveV (by constructor) ?_) (by decide)
      refine WO.cons ?_ (by decide)
      refine SV.callM rfl rfl (windD_sp (v := v) hX hM3 hv1 (by omega) hlok (by omega)) ?_
      rintro r s4 H4 hn4 hM4 ⟨rfl, rfl⟩
      refine WO.cons (SV.neqI rfl rfl ?_) (by decide)
      refine WO.nil ?_
      by_cases hz : windD l i j = 0
      · have hd3 : (decide (windD l i j ≠ 0)) = false := decide_eq_false (by simp [hz])
        refine WC.condF rfl (by assumption) (WC.skip ?_)
        refine WC.region ?_
        refine WO.cons (SV.moveV (by constructor) ?_) (by decide)
        refine WO.cons (SV.add64 rfl rfl (by omega) ?_) (by decide)
        refine WO.cons (SV.assignV (by constructor) ?_) (by decide)
        refine WO.nil ?_
        refine ⟨rfl, k + 1, ⟨rfl, rfl, rfl, ?_, rfl, ?_, trivial⟩, ⟨by omega, hM4, by omega⟩, by omega⟩
        · show some (Value.int .i64 n1) = some (Value.int .i64 (n0 + cnt (64 * x) (k + 1) (fun i => decide (windD l i j ≠ 0))))
          rw [hstep, if_neg (by simp [hz]), Int.add_zero]
        · show some (Value.int .i64 (i + 1)) = some (Value.int .i64 (64 * x + ((k + 1 : Nat) : Int)))
          congr 2; omega
      · have hd3 : (decide (windD l i j ≠ 0)) = true := decide_eq_true hz
        refine WC.condT rfl (by assumption) ?_
        refine WC.region ?_
        refine WO.cons (SV.moveV (by constructor) ?_) (by decide)
        refine WO.cons (SV.add64 rfl rfl (by omega) ?_) (by decide)
        refine WO.cons (SV.assignV (by constructor) ?_) (by decide)
        refine WO.nil ?_
        refine WC.region ?_
        refine WO.cons (SV.moveV (by constructor) ?_) (by decide)
        refine WO.cons (SV.add64 rfl rfl (by omega) ?_) (by decide)
        refine WO.cons (SV.assignV (by constructor) ?_) (by decide)
        refine WO.nil ?_
        refine ⟨rfl, k + 1, ⟨rfl, rfl, rfl, ?_, rfl, ?_, trivial⟩, ⟨by omega, hM4, by omega⟩, by omega⟩
        · show some (Value.int .i64 (n1 + 1)) = some (Value.int .i64 (n0 + cnt (64 * x) (k + 1) (fun i => decide (windD l i j ≠ 0))))
          rw [hstep, if_pos hz]
        · show some (Value.int .i64 (i + 1)) = some (Value.int .i64 (64 * x + ((k + 1 : Nat) : Int)))
          congr 2; omega
    · obtain rfl : k = 64 := by omega
      refine WC.exit ?_
      refine WC.region ?_
      refine WO.cons (SV.moveV (by constructor) ?_) (by decide)
      refine WO.cons (SV.add64 rfl rfl (by omega) ?_) (by decide)
      refine WO.cons (SV.assignV (by constructor) ?_) (by decide)
      refine WO.nil ?_
      refine ⟨rfl, m + 1, ⟨rfl, rfl, rfl, ?_, ?_, trivial⟩, ⟨hn3, hM3, by omega⟩, by omega⟩
      · show some (Value.int .i64 n1) = some (Value.int .i64 (rowsD l (64 * y) (64 * x) 64 (m + 1)))
        rw [hn1']
        simp only [rowsD]
        rw [← hn0, ← hj]
      · show some (Value.int .i64 (j + 1)) = some (Value.int .i64 (64 * y + ((m + 1 : Nat) : Int)))
        congr 2; omega
  · have hres : n0 = rowsD l (64 * y) (64 * x) 64 64 := by
      by_cases hm2 : m = 64
      · rw [hn0, hm2]
      · obtain rfl : l = [] := List.length_eq_zero_iff.mp (by omega)
        rw [hn0, rowsD_nil, rowsD_nil]
    by_cases hm2 : j < 64 * y + 64
    · have hd1 : decide (j < 64 * y + 64) = true := decide_eq_true hm2
      have hd2 : decide ((0 : Int) < (l.length : Int)) = false := decide_eq_false (by omega)
      refine WC.seq (WC.seq ?_)
      refine WC.region ?_
      refine WO.cons (SV.moveV (by constructor) ?_) (by decide)
      refine WO.cons (SV.moveV (by constructor) ?_) (by decide)
      refine WO.cons (SV.mul64 rfl rfl (by omega) ?_) (by decide)
      refine WO.cons (SV.add64 rfl rfl (by omega) ?_) (by decide)
      refine WO.cons (SV.lss rfl rfl ?_) (by decide)
      refine WO.cons (SV.moveV (by constructor) ?_) (by decide)
      refine WO.guardY rfl rfl rfl (by assumption) (SV.move ?_) (by decide)
      all_goals (refine WO.guardY rfl rfl rfl (by assumption) (SV.lenO rfl rfl (by assumption) ?_) (by decide))
      all_goals (refine WO.guardY rfl rfl rfl (by assumption) (SV.gtr rfl rfl ?_) (by decide))
      all_goals (refine WO.cons (SV.pickTV rfl (by assumption) (by constructor) ?_) (by decide))
      all_goals refine WO.nil ?_
      refine WC.condF rfl (by assumption) (WC.exit (WC.seq ?_))
      refine WC.region ?_
      refine WO.cons (SV.moveV (by constructor) ?_) (by decide)
      refine WO.cons (SV.assignV (by constructor) ?_) (by decide)
      refine WO.nil ?_
      refine WC.ret ?_
      exact fin_one (e := .ret) (v := .int .i64 _) rfl trivial rfl hn2 hM2 ⟨by rw [hres], hE1⟩
    · have hd1 : decide (j < 64 * y + 64) = false := decide_eq_false hm2
      refine WC.seq (WC.seq ?_)
      refine WC.region ?_
      refine WO.cons (SV.moveV (by constructor) ?_) (by decide)
      refine WO.cons (SV.moveV (by constructor) ?_) (by decide)
      refine WO.cons (SV.mul64 rfl rfl (by omega) ?_) (by decide)
      refine WO.cons (SV.add64 rfl rfl (by omega) ?_) (by decide)
      refine WO.cons (SV.lss rfl rfl ?_) (by decide)
      refine WO.cons (SV.moveV (by constructor) ?_) (by decide)
      refine WO.guardN rfl rfl rfl (by assumption) ?_ (by decide)
      all_goals (refine WO.guardN rfl rfl rfl (by assumption) ?_ (by decide))
      all_goals (refine WO.guardN rfl rfl rfl (by assumption) ?_ (by decide))
      all_goals (refine WO.cons (SV.pickFV rfl (by assumption) (by constructor) ?_) (by decide))
      all_goals refine WO.nil ?_
      refine WC.condF rfl (by rfl) (WC.exit (WC.seq ?_))
      refine WC.region ?_
      refine WO.cons (SV.moveV (by constructor) ?_) (by decide)
      refine WO.cons (SV.assignV (by constructor) ?_) (by decide)
      refine WO.nil ?_
      refine WC.ret ?_
      exact fin_one (e := .ret) (v := .int .i64 _) rfl trivial rfl hn2 hM2 ⟨by rw [hres], hE1⟩
/-- The document's count. -/
def countD (p : List (List Spt)) (x y : Int) : Int × Int := if checkM p ≠ 0 then (0, checkM p) else if smallD x = true ∧ smallD y = true then (cellsD p x y, 0) else (0, 214)
set_option maxHeartbeats 1000000 in
theorem countD_sp {s : St} {H : Hp} {A : Option Addr} {cp : Nat} {p : List (List Spt)} {x y : Int} (hX : OwnX X) (hM : Models ro s H) (hp : PolyH H A p) (hb : p.length ≤ 1000000000000) (hbig : totM p ≤ 1000000000000) :
    Sp X Try.prog ro 21 [.slice A p.length cp, .int .i64 x, .int .i64 y] s fun v H' => v = .tuple #[.int .i64 (countD p x y).1, .int .i64 (countD p x y).2] ∧ Ext H H' := by
  refine Sp.of_body (hX _ _ _ (by decide) (by decide) (by decide) (by decide)) Try.func21 rfl Try.ntmps21 (by simp) ?_
  refine WC.seq ?_
  refine WC.region ?_
  refine WO.cons (SV.assignV (by constructor) ?_) (by decide)
  refine WO.cons (SV.assignV (by constructor) ?_) (by decide)
  refine WO.nil ?_
  refine WC.seq ?_
  refine WC.region ?_
  refine WO.cons (SV.moveV (by constructor) ?_) (by decide)
  refine WO.cons ?_ (by decide)
  refine SV.callM rfl rfl (checkD_sp hX hM hp (by omega) (by omega)) ?_
  rintro v s1 H1 hn1 hM1 ⟨rfl, rfl⟩
  refine WO.cons (SV.assignV (by constructor) ?_) (by decide)
  refine WO.nil ?_
  by_cases hc : checkM p = 0
  · have hd : decide (checkM p = 0) = true := decide_eq_true hc
    have hdn : (decide (checkM p ≠ 0)) = false := decide_eq_false (by simp [hc])
    have hw : ¬ 16384 < totM p ∧ wideM p = false := by
      unfold checkM at hc
      by_cases h1 : 16384 < totM p
      · rw [if_pos h1] at hc; cases hc
      · rw [if_neg h1] at hc
        cases hw : wideM p with
        | true => rw [hw, if_pos rfl] at hc; cases hc
        | false => exact ⟨h1, rfl⟩
    obtain ⟨htot, hwide⟩ := hw
    have bad : ¬ (smallD x = true ∧ smallD y = true) → countD p x y = (0, 214) := fun h => by unfold countD; rw [if_neg (fun h2 => h2 hc), if_neg h]
    refine WC.seq (WC.seq ?_)
    refine WC.region ?_
    refine WO.cons (SV.moveV (by constructor) ?_) (by decide)
    refine WO.cons (SV.eqlI rfl rfl ?_) (by decide)
    refine WO.cons (SV.moveV (by constructor) ?_) (by decide)
    refine WO.guardY rfl rfl rfl (by assumption) (SV.moveV (by constructor) ?_) (by decide)
    all_goals (refine WO.guardY rfl rfl rfl (by assumption) ?_ (by decide))
    refine SV.callM rfl rfl (within_sp hX hM1) ?_
    rintro v s2 H2 hn2 hM2 ⟨rfl, rfl⟩
    cases hsx : smallD x with
    | false =>
      refine WO.guardY rfl rfl rfl (by assumption) (SV.notF rfl (by rfl) ?_) (by decide)
      all_goals (refine WO.guardY rfl rfl rfl (by assumption) (SV.moveV (by constructor) ?_) (by decide))
      all_goals (refine WO.guardN rfl rfl rfl (by rfl) ?_ (by decide))
      all_goals (refine WO.guardN rfl rfl rfl (by rfl) ?_ (by decide))
      refine WO.guardN rfl rfl rfl (by rfl) ?_ (by decide)
      all_goals (refine WO.guardY rfl rfl rfl (by assumption) (SV.pickTV rfl (by rfl) (by constructor) ?_) (by decide))
      all_goals (refine WO.cons (SV.pickTV rfl (by assumption) (by constructor) ?_) (by decide))
      all_goals refine WO.nil ?_
      refine WC.condT rfl (by rfl) ?_
      refine WC.region ?_
      refine WO.cons (SV.assignV (by constructor) ?_) (by decide)
      refine WO.nil ?_
      refine WC.seq (WC.seq ?_)
      refine WC.region ?_
      refine WO.cons (SV.moveV (by constructor) ?_) (by decide)
      refine WO.cons (SV.neqI rfl rfl ?_) (by decide)
      refine WO.nil ?_
      refine WC.condT rfl (by rfl) (WC.seq ?_)
      refine WC.region ?_
      refine WO.cons (SV.moveV (by constructor) ?_) (by decide)
      refine WO.cons (SV.assignV (by constructor) ?_) (by decide)
      refine WO.cons (SV.assignV (by constructor) ?_) (by decide)
      refine WO.nil ?_
      refine WC.ret ?_
      rw [bad (by rw [hsx]; simp)]
      exact fin_two (e := .ret) (v := .int .i64 _) (w := .int .i64 _) rfl trivial rfl rfl (by omega) hM2 ⟨rfl, Ext.refl⟩
    | true =>
      refine WO.guardY rfl rfl rfl (by assumption) (SV.notT rfl (by rfl) ?_) (by decide)
      all_goals (refine WO.guardY rfl rfl rfl (by assumption) (SV.moveV (by constructor) ?_) (by decide))
      all_goals (refine WO.guardY rfl rfl rfl (by rfl) (SV.moveV (by constructor) ?_) (by decide))
      all_goals (refine WO.guardY rfl rfl rfl (by rfl) ?_ (by decide))
      refine SV.callM rfl rfl (within_sp hX hM2) ?_
      rintro v s3 H3 hn3 hM3 ⟨rfl, rfl⟩
      cases hsy : smallD y with
      | false =>
        refine WO.guardY rfl rfl rfl (by rfl) (SV.notF rfl (by rfl) ?_) (by decide)
        all_goals (refine WO.guardY rfl rfl rfl (by assumption) (SV.pickFV rfl (by rfl) (by constructor) ?_) (by decide))
        all_goals (refine WO.cons (SV.pickTV rfl (by assumption) (by constructor) ?_) (by decide))
        all_goals refine WO.nil ?_
        refine WC.condT rfl (by rfl) ?_
        refine WC.region ?_
        refine WO.cons (SV.assignV (by constructor) ?_) (by decide)
        refine WO.nil ?_
        refine WC.seq (WC.seq ?_)
        refine WC.region ?_
        refine WO.cons (SV.moveV (by constructor) ?_) (by decide)
        refine WO.cons (SV.neqI rfl rfl ?_) (by decide)
        refine WO.nil ?_
        refine WC.condT rfl (by rfl) (WC.seq ?_)
        refine WC.region ?_
        refine WO.cons (SV.moveV (by constructor) ?_) (by decide)
        refine WO.cons (SV.assignV (by constructor) ?_) (by decide)
        refine WO.cons (SV.assignV (by constructor) ?_) (by decide)
        refine WO.nil ?_
        refine WC.ret ?_
        rw [bad (by rw [hsy]; simp)]
        exact fin_two (e := .ret) (v := .int .i64 _) (w := .int .i64 _) rfl trivial rfl rfl (by omega) hM3 ⟨rfl, Ext.refl⟩
      | true =>
        refine WO.guardY rfl rfl rfl (by rfl) (SV.notT rfl (by rfl) ?_) (by decide)
        all_goals (refine WO.guardY rfl rfl rfl (by assumption) (SV.pickFV rfl (by rfl) (by constructor) ?_) (by decide))
        all_goals (refine WO.cons (SV.pickTV rfl (by assumption) (by constructor) ?_) (by decide))
        all_goals refine WO.nil ?_
        refine WC.condF rfl (by rfl) (WC.skip (WC.seq (WC.seq ?_)))
        refine WC.region ?_
        refine WO.cons (SV.moveV (by constructor) ?_) (by decide)
        refine WO.cons (SV.neqI rfl rfl ?_) (by decide)
        refine WO.nil ?_
        refine WC.condF rfl (by assumption) (WC.skip (WC.seq ?_))
        have hxb : -16777216 ≤ x ∧ x ≤ 16777216 := of_decide_eq_true hsx
        have hyb : -16777216 ≤ y ∧ y ≤ 16777216 := of_decide_eq_true hsy
        refine WC.region ?_
        refine WO.cons (SV.moveV (by constructor) ?_) (by decide)
        refine WO.cons (SV.moveV (by constructor) ?_) (by decide)
        refine WO.cons (SV.moveV (by constructor) ?_) (by decide)
        refine WO.cons ?_ (by decide)
        refine SV.callM rfl rfl (cellsD_sp hX hM3 hp (by omega) (by omega) hwide hxb hyb) ?_
        rintro v s4 H4 hn4 hM4 ⟨rfl, hE4⟩
        refine WO.cons (SV.assignV (by constructor) ?_) (by decide)
        refine WO.cons (SV.assignV (by constructor) ?_) (by decide)
        refine WO.nil ?_
        refine WC.ret ?_
        exact fin_two (e := .ret) (v := .int .i64 _) (w := .int .i64 _) rfl trivial rfl rfl (by omega) hM4 ⟨by unfold countD; rw [if_neg (fun h2 => h2 hc), if_pos ⟨hsx, hsy⟩], hE4⟩
  · have hd : decide (checkM p = 0) = false := decide_eq_false hc
    have hdn : (decide (checkM p ≠ 0)) = true := decide_eq_true hc
    refine WC.seq (WC.seq ?_)
    refine WC.region ?_
    refine WO.cons (SV.moveV (by constructor) ?_) (by decide)
    refine WO.cons (SV.eqlI rfl rfl ?_) (by decide)
    refine WO.cons (SV.moveV (by constructor) ?_) (by decide)
    refine WO.guardN rfl rfl rfl (by assumption) ?_ (by decide)
    all_goals (refine WO.guardN rfl rfl rfl (by assumption) ?_ (by decide))
    refine WO.guardN rfl rfl rfl (by assumption) ?_ (by decide)
    all_goals (refine WO.guardN rfl rfl rfl (by assumption) ?_ (by decide))
    all_goals (refine WO.guardU rfl rfl rfl ?_ (by decide))
    all_goals (refine WO.guardU rfl rfl rfl ?_ (by decide))
    refine WO.guardU rfl rfl rfl ?_ (by decide)
    all_goals (refine WO.guardN rfl rfl rfl (by assumption) ?_ (by decide))
    all_goals (refine WO.cons (SV.pickFV rfl (by assumption) (by constructor) ?_) (by decide))
    all_goals refine WO.nil ?_
    refine WC.condF rfl (by rfl) (WC.skip (WC.seq (WC.seq ?_)))
    refine WC.region ?_
    refine WO.cons (SV.moveV (by constructor) ?_) (by decide)
    refine WO.cons (SV.neqI rfl rfl ?_) (by decide)
    refine WO.nil ?_
    refine WC.condT rfl (by assumption) (WC.seq ?_)
    refine WC.region ?_
    refine WO.cons (SV.moveV (by constructor) ?_) (by decide)
    refine WO.cons (SV.assignV (by constructor) ?_) (by decide)
    refine WO.cons (SV.assignV (by constructor) ?_) (by decide)
    refine WO.nil ?_
    refine WC.ret ?_
    exact fin_two (e := .ret) (v := .int .i64 _) (w := .int .i64 _) rfl trivial rfl rfl (by omega) hM1 ⟨by unfold countD; rw [if_pos hc], Ext.refl⟩
end Go.Proofs.Ytmlplblhabdbpaa

namespace Go.Proofs.Ytmlplblhabdbpaa
open Go.Ab
set_option linter.unusedVariables false
set_option linter.unusedSimpArgs false
/-! ### The two counts are one -/
theorem ceil_le {u d i : Int} (hd : 0 < d) : ((if 0 < u.tmod d then u.tdiv d + 1 else u.tdiv d) ≤ i) ↔ u ≤ i * d := by
  have h1 : d * u.tdiv d + u.tmod d = u := Int.mul_tdiv_add_tmod u d
  have h2 : u.tmod d < d := Int.tmod_lt_of_pos u hd
  have h3 : -d < u.tmod d := Int.lt_tmod_of_pos u hd
  generalize u.tdiv d = q at *
  generalize u.tmod d = r at *
  have key : ∀ m n : Int, m ≤ n → d * m ≤ d * n := fun m n h => Int.mul_le_mul_of_nonneg_left h (by omega)
  have e : i * d = d * i := Int.mul_comm _ _
  rw [e]
  split
  · rename_i hr
    constructor
    · intro h
      have := key _ _ h
      rw [Int.mul_add, Int.mul_one] at this
      omega
    · intro h
      by_cases hq : q + 1 ≤ i
      · exact hq
      · have := key i q (by omega)
        omega
  · rename_i hr
    constructor
    · intro h
      have := key _ _ h
      omega
    · intro h
      by_cases hq : q ≤ i
      · exact hq
      · have := key i (q - 1) (by omega)
        rw [Int.mul_sub, Int.mul_one] at this
        omega
theorem first_le {e : Ed} {i j : Int} (h : e.y0 < e.y1) : firstM e j ≤ i ↔ upM e j ≤ i * (2 * (e.y1 - e.y0)) := ceil_le (by omega)
theorem up_left {a b : Spt} {i j : Int} : upM ⟨a.1, a.2, b.1, b.2, 1⟩ j ≤ i * (2 * (b.2 - a.2)) ↔ leftD (a, b) j ≤ rightD (a, b) i := by
  unfold upM leftD rightD
  dsimp only
  have e : (b.2 - a.2) * (2 * i + 1) = i * (2 * (b.2 - a.2)) + (b.2 - a.2) := by
    rw [Int.mul_add, Int.mul_one, Int.mul_left_comm, Int.mul_left_comm i, Int.mul_comm (b.2 - a.2) i]
  rw [e]
  omega
theorem down_left {a b : Spt} {i j : Int} : upM ⟨b.1, b.2, a.1, a.2, -1⟩ j ≤ i * (2 * (a.2 - b.2)) ↔ rightD (a, b) i ≤ leftD (a, b) j := by
  unfold upM leftD rightD
  dsimp only
  grind
theorem windC_app {C D : List Cr} {i : Int} : windC (C ++ D) i = windC C i + windC D i := by
  induction C with
  | nil => simp [windC]
  | cons c C ih => simp only [List.cons_append, windC, ih]; omega
theorem wind_edge (a b : Spt) (i j : Int) : windC (crossM (edgeM a b) j) i = wOne (a, b) i j := by
  unfold edgeM wOne
  dsimp only
  by_cases h : a.2 < b.2
  · rw [if_pos h]
    by_cases hj : a.2 ≤ j ∧ j < b.2
    · rw [if_pos hj]
      have : crossM [⟨a.1, a.2, b.1, b.2, 1⟩] j = [(firstM ⟨a.1, a.2, b.1, b.2, 1⟩ j, 1)] := by unfold crossM actM actB; simp [List.filter_cons, hj.1, hj.2]
      rw [this]
      simp only [windC, Int.add_zero]
      have e := (first_le (e := ⟨a.1, a.2, b.1, b.2, 1⟩) (i := i) (j := j) h).trans up_left
      by_cases hf : firstM ⟨a.1, a.2, b.1, b.2, 1⟩ j ≤ i
      · rw [if_pos hf, if_pos (e.mp hf)]
      · rw [if_neg hf, if_neg fun h => hf (e.mpr h)]
    · rw [if_neg hj, if_neg (by omega)]
      have : crossM [⟨a.1, a.2, b.1, b.2, 1⟩] j = [] := by
        unfold crossM actM actB
        by_cases h1 : a.2 ≤ j
        · have h2 : ¬ j < b.2 := fun h2 => hj ⟨h1, h2⟩
          simp [List.filter_cons, h1, h2]
        · simp [List.filter_cons, h1]
      rw [this]; rfl
  · rw [if_neg h, if_neg (show ¬ (a.2 ≤ j ∧ j < b.2) by omega)]
    by_cases h2 : b.2 < a.2
    · rw [if_pos h2]
      by_cases hj : b.2 ≤ j ∧ j < a.2
      · rw [if_pos hj]
        have : crossM [⟨b.1, b.2, a.1, a.2, -1⟩] j = [(firstM ⟨b.1, b.2, a.1, a.2, -1⟩ j, -1)] := by unfold crossM actM actB; simp [List.filter_cons, hj.1, hj.2]
        rw [this]
        simp only [windC, Int.add_zero]
        have e := (first_le (e := ⟨b.1, b.2, a.1, a.2, -1⟩) (i := i) (j := j) h2).trans down_left
        by_cases hf : firstM ⟨b.1, b.2, a.1, a.2, -1⟩ j ≤ i
        · rw [if_pos hf, if_pos (e.mp hf)]
        · rw [if_neg hf, if_neg fun h => hf (e.mpr h)]
      · rw [if_neg hj]
        have : crossM [⟨b.1, b.2, a.1, a.2, -1⟩] j = [] := by
          unfold crossM actM actB
          by_cases h1 : b.2 ≤ j
          · have h3 : ¬ j < a.2 := fun h3 => hj ⟨h1, h3⟩
            simp [List.filter_cons, h1, h3]
          · simp [List.filter_cons, h1]
        rw [this]; rfl
    · rw [if_neg h2, if_neg (by omega)]; rfl
theorem windD_app {A B : List De} {i j : Int} : windD (A ++ B) i j = windD A i j + windD B i j := by unfold windD; rw [List.map_append, List.sum_append]
theorem wind_one {j0 j1 : Int} {c : List Spt} {k : Nat} {i j : Int} (h0 : j0 ≤ j) (h1 : j < j1) : windD (edgeDs j0 j1 c k) i j = wOne (edgeD c k) i j := by
  unfold edgeDs
  split
  · simp [windD]
  · rename_i h
    have : wOne (edgeD c k) i j = 0 := by
      unfold keepD loD hiD at h
      unfold wOne
      replace h := fun hh => h (decide_eq_true hh)
      generalize edgeD c k = e at *
      by_cases c1 : e.1.2 ≤ j ∧ j < e.2.2
      · rw [if_neg (show ¬ e.2.2 < e.1.2 by omega), if_neg (show ¬ e.2.2 < e.1.2 by omega)] at h
        exact (h ⟨by omega, by omega, by omega⟩).elim
      · by_cases c2 : e.2.2 ≤ j ∧ j < e.1.2
        · rw [if_pos (show e.2.2 < e.1.2 by omega), if_pos (show e.2.2 < e.1.2 by omega)] at h
          exact (h ⟨by omega, by omega, by omega⟩).elim
        · rw [if_neg c1, if_neg c2]
    rw [this]; rfl
theorem wind_range {j0 j1 : Int} {c : List Spt} {i j : Int} (h0 : j0 ≤ j) (h1 : j < j1) : ∀ I : List Nat, windC (crossM (I.flatMap (edgeAt c)) j) i = windD (I.flatMap (edgeDs j0 j1 c)) i j
  | [] => rfl
  | k :: I => by
    rw [List.flatMap_cons, List.flatMap_cons, crossM_app, windC_app, windD_app, wind_range h0 h1 I, wind_one h0 h1]
    congr 1
    exact wind_edge _ _ _ _
theorem wind_poly {j0 j1 : Int} {i j : Int} (h0 : j0 ≤ j) (h1 : j < j1) : ∀ p : List (List Spt), windC (crossM (edgesM p) j) i = windD (edgesD j0 j1 p) i j
  | [] => rfl
  | c :: p => by
    have e1 : edgesM (c :: p) = edgesC c ++ edgesM p := by unfold edgesM; rw [List.flatMap_cons]
    have e2 : edgesD j0 j1 (c :: p) = (List.range c.length).flatMap (edgeDs j0 j1 c) ++ edgesD j0 j1 p := by unfold edgesD; rw [List.flatMap_cons]
    rw [e1, e2, crossM_app, windC_app, windD_app, wind_poly h0 h1 p]
    unfold edgesC
    rw [wind_range h0 h1]
theorem rows_eq {p : List (List Spt)} {j0 lo : Int} {n N : Nat} : ∀ m, m ≤ N → rowsC (edgesM p) j0 lo n m = rowsD (edgesD j0 (j0 + N) p) j0 lo n m
  | 0, _ => rfl
  | m + 1, h => by
    simp only [rowsC, rowsD]
    rw [rows_eq (N := N) m (by omega)]
    congr 1
    refine cnt_congr fun i _ _ => ?_
    rw [wind_poly (j0 := j0) (j1 := j0 + N) (by omega) (by omega)]
theorem cells_eq (p : List (List Spt)) (x y : Int) : cellsM p x y = cellsD p x y := rows_eq (N := 64) 64 (Nat.le_refl _)
theorem count_eq (p : List (List Spt)) (x y : Int) : countM p x y = countD p x y := by unfold countM countD; rw [cells_eq]
theorem cells_bd (p : List (List Spt)) (x y : Int) : 0 ≤ cellsM p x y ∧ cellsM p x y ≤ 4096 := by
  have := rowsC_bd (l := edgesM p) (j0 := 64 * y) (lo := 64 * x) (n := 64) 64
  unfold cellsM
  omega
end Go.Proofs.Ytmlplblhabdbpaa
