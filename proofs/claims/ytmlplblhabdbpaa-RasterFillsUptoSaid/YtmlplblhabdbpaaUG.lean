/- A part of the proof: rules for walking code over the evaluator, and what the functions that were walked come to: no condition but those that each theorem states. -/
import Derived.Test.YtmlplblhabdbpaaUF
set_option linter.unusedVariables false
set_option linter.unusedSimpArgs false
namespace Go.Proofs.Ytmlplblhabdbpaa
open Go.Ab
variable {X : CallE} {ro : Nat}
set_option maxRecDepth 10000
set_option linter.unusedVariables false
set_option linter.unusedSimpArgs false

theorem within_sp {s : St} {H : Hp} {n : Int} (hX : OwnX X) (hM : Models ro s H) : Sp X Try.prog ro 28 [.int .i64 n] s fun v H' => v = .bool (smallD n) ∧ H' = H := by
  refine Sp.of_body (hX _ _ _ (by decide) (by decide) (by decide) (by decide)) Try.func28 rfl Try.ntmps28 (by simp) ?_
  refine WC.seq ?_
  refine WC.region ?_
  refine WO.cons (SV.assignV (by constructor) ?_) (by decide)
  refine WO.nil ?_
  by_cases h1 : -16777216 ≤ n
  · have hd : decide (-16777216 ≤ n) = true := decide_eq_true h1
    refine WC.seq ?_
    refine WC.region ?_
    refine WO.cons (SV.moveV (by constructor) ?_) (by decide)
    refine WO.cons (SV.geq rfl rfl ?_) (by decide)
    refine WO.cons (SV.moveV (by constructor) ?_) (by decide)
    refine WO.guardY rfl rfl rfl (by assumption) (SV.moveV (by constructor) ?_) (by decide)
    all_goals (refine WO.guardY rfl rfl rfl (by assumption) (SV.leq rfl rfl ?_) (by decide))
    all_goals (refine WO.cons (SV.pickTV rfl (by assumption) (by constructor) ?_) (by decide))
    all_goals refine WO.cons (SV.assignV (by constructor) ?_) (by decide)
    all_goals refine WO.nil ?_
    refine WC.ret ?_
    exact fin_one (e := .ret) (v := .bool _) rfl trivial rfl (by omega) hM ⟨by unfold smallD; simp [h1], rfl⟩
  · have hd : decide (-16777216 ≤ n) = false := decide_eq_false h1
    refine WC.seq ?_
    refine WC.region ?_
    refine WO.cons (SV.moveV (by constructor) ?_) (by decide)
    refine WO.cons (SV.geq rfl rfl ?_) (by decide)
    refine WO.cons (SV.moveV (by constructor) ?_) (by decide)
    refine WO.guardN rfl rfl rfl (by assumption) ?_ (by decide)
    all_goals (refine WO.guardN rfl rfl rfl (by assumption) ?_ (by decide))
    all_goals (refine WO.cons (SV.pickFV rfl (by assumption) (by constructor) ?_) (by decide))
    all_goals refine WO.cons (SV.assignV (by constructor) ?_) (by decide)
    all_goals refine WO.nil ?_
    refine WC.ret ?_
    exact fin_one (e := .ret) (v := .bool _) rfl trivial rfl (by omega) hM ⟨by unfold smallD; simp [h1], rfl⟩
/-- A number of cells as a byte. -/
def alphaM (n : Int) : Int := (255 * (if 4096 < n then 4096 else if n < 0 then 0 else n) + 2048) / 4096
theorem alpha_sp {s : St} {H : Hp} {n : Int} (hX : OwnX X) (hM : Models ro s H) : Sp X Try.prog ro 19 [.int .i64 n] s fun v H' => v = .int .u8 (alphaM n) ∧ H' = H := by
  refine Sp.of_body (hX _ _ _ (by decide) (by decide) (by decide) (by decide)) Try.func19 rfl Try.ntmps19 (by simp) ?_
  refine WC.seq ?_
  refine WC.region ?_
  refine WO.cons (SV.assignV (by constructor) ?_) (by decide)
  refine WO.nil ?_
  refine WC.seq ?_
  refine WC.region ?_
  refine WO.cons (SV.moveV (by constructor) ?_) (by decide)
  refine WO.cons (SV.max2 rfl rfl ?_) (by decide)
  refine WO.cons (SV.min2 rfl rfl ?_) (by decide)
  refine WO.cons (SV.assignV (by constructor) ?_) (by decide)
  refine WO.nil ?_
  obtain ⟨m, hm⟩ : ∃ m : Int, m = if 4096 < (if n < 0 then 0 else n) then 4096 else if n < 0 then 0 else n := ⟨_, rfl⟩
  rw [← hm]
  have hb : 0 ≤ m ∧ m ≤ 4096 := by rw [hm]; (repeat' split) <;> omega
  have he : alphaM n = (255 * m + 2048) / 4096 := by unfold alphaM; congr 1; congr 1; congr 1; rw [hm]; (repeat' split) <;> omega
  refine WC.seq ?_
  refine WC.region ?_
  refine WO.cons (SV.moveV (by constructor) ?_) (by decide)
  refine WO.cons (SV.mul64 rfl rfl (by omega) ?_) (by decide)
  refine WO.cons (SV.add64 rfl rfl (by omega) ?_) (by decide)
  refine WO.cons (SV.quoP rfl rfl (by omega) (by omega) ?_) (by decide)
  refine WO.cons (SV.conv8 Try.underlying3 Try.underlying5 rfl (by omega) ?_) (by decide)
  refine WO.cons (SV.assignV (by constructor) ?_) (by decide)
  refine WO.nil ?_
  refine WC.ret ?_
  exact fin_one (e := .ret) (v := .int .u8 _) rfl trivial rfl (by omega) hM ⟨by rw [he], rfl⟩
theorem alphaD_sp {s : St} {H : Hp} {n : Int} (hX : OwnX X) (hM : Models ro s H) : Sp X Try.prog ro 20 [.int .i64 n] s fun v H' => v = .int .u8 (alphaM n) ∧ H' = H := by
  refine Sp.of_body (hX _ _ _ (by decide) (by decide) (by decide) (by decide)) Try.func20 rfl Try.ntmps20 (by simp) ?_
  refine WC.seq ?_
  refine WC.region ?_
  refine WO.cons (SV.assignV (by constructor) ?_) (by decide)
  refine WO.nil ?_
  refine WC.seq (WC.seq ?_)
  refine WC.region ?_
  refine WO.cons (SV.moveV (by constructor) ?_) (by decide)
  refine WO.cons (SV.lss rfl rfl ?_) (by decide)
  refine WO.nil ?_
  by_cases h1 : n < 0
  · have hd : decide (n < 0) = true := decide_eq_true h1
    have he : alphaM n = (255 * 0 + 2048) / 4096 := by unfold alphaM; rw [if_neg (by omega), if_pos h1]
    refine WC.condT rfl (by assumption) ?_
    refine WC.region ?_
    refine WO.cons (SV.assignV (by constructor) ?_) (by decide)
    refine WO.nil ?_
    refine WC.seq (WC.seq ?_)
    refine WC.region ?_
    refine WO.cons (SV.moveV (by constructor) ?_) (by decide)
    refine WO.cons (SV.gtr rfl rfl ?_) (by decide)
    refine WO.nil ?_
    refine WC.condF rfl (by rfl) (WC.skip (WC.seq ?_))
    refine WC.region ?_
    refine WO.cons (SV.moveV (by constructor) ?_) (by decide)
    refine WO.cons (SV.mul64 rfl rfl (by omega) ?_) (by decide)
    refine WO.cons (SV.quoP rfl rfl (by omega) (by omega) ?_) (by decide)
    refine WO.cons (SV.assignV (by constructor) ?_) (by decide)
    refine WO.nil ?_
    refine WC.seq (WC.seq ?_)
    refine WC.region ?_
    refine WO.cons (SV.moveV (by constructor) ?_) (by decide)
    refine WO.cons (SV.mul64 rfl rfl (by omega) ?_) (by decide)
    refine WO.cons (SV.remP rfl rfl (by omega) (by omega) ?_) (by decide)
    refine WO.cons (SV.geq rfl rfl ?_) (by decide)
    refine WO.nil ?_
    by_cases h3 : 2048 ≤ (255 * (0 : Int)) % 4096
    · have hd3 : decide (2048 ≤ (255 * (0 : Int)) % 4096) = true := decide_eq_true h3
      refine WC.condT rfl (by assumption) ?_
      refine WC.region ?_
      refine WO.cons (SV.moveV (by constructor) ?_) (by decide)
      refine WO.cons (SV.add64 rfl rfl (by omega) ?_) (by decide)
      refine WO.cons (SV.assignV (by constructor) ?_) (by decide)
      refine WO.nil ?_
      refine WC.seq ?_
      refine WC.region ?_
      refine WO.cons (SV.moveV (by constructor) ?_) (by decide)
      refine WO.cons (SV.conv8 Try.underlying3 Try.underlying5 rfl (by omega) ?_) (by decide)
      refine WO.cons (SV.assignV (by constructor) ?_) (by decide)
      refine WO.nil ?_
      refine WC.ret ?_
      exact fin_one (e := .ret) (v := .int .u8 _) rfl trivial rfl (by omega) hM ⟨congrArg (Value.int .u8) (by rw [he]; omega), rfl⟩
    · have hd3 : decide (2048 ≤ (255 * (0 : Int)) % 4096) = false := decide_eq_false h3
      refine WC.condF rfl (by assumption) (WC.skip (WC.seq ?_))
      refine WC.region ?_
      refine WO.cons (SV.moveV (by constructor) ?_) (by decide)
      refine WO.cons (SV.conv8 Try.underlying3 Try.underlying5 rfl (by omega) ?_) (by decide)
      refine WO.cons (SV.assignV (by constructor) ?_) (by decide)
      refine WO.nil ?_
      refine WC.ret ?_
      exact fin_one (e := .ret) (v := .int .u8 _) rfl trivial rfl (by omega) hM ⟨congrArg (Value.int .u8) (by rw [he]; omega), rfl⟩
  · have hd : decide (n < 0) = false := decide_eq_false h1
    refine WC.condF rfl (by assumption) (WC.skip (WC.seq (WC.seq ?_)))
    refine WC.region ?_
    refine WO.cons (SV.moveV (by constructor) ?_) (by decide)
    refine WO.cons (SV.gtr rfl rfl ?_) (by decide)
    refine WO.nil ?_
    by_cases h2 : 4096 < n
    · have hd2 : decide (4096 < n) = true := decide_eq_true h2
      have he : alphaM n = (255 * 4096 + 2048) / 4096 := by unfold alphaM; rw [if_pos h2]
      refine WC.condT rfl (by assumption) ?_
      refine WC.region ?_
      refine WO.cons (SV.assignV (by constructor) ?_) (by decide)
      refine WO.nil ?_
      refine WC.seq ?_
      refine WC.region ?_
      refine WO.cons (SV.moveV (by constructor) ?_) (by decide)
      refine WO.cons (SV.mul64 rfl rfl (by omega) ?_) (by decide)
      refine WO.cons (SV.quoP rfl rfl (by omega) (by omega) ?_) (by decide)
      refine WO.cons (SV.assignV (by constructor) ?_) (by decide)
      refine WO.nil ?_
      refine WC.seq (WC.seq ?_)
      refine WC.region ?_
      refine WO.cons (SV.moveV (by constructor) ?_) (by decide)
      refine WO.cons (SV.mul64 rfl rfl (by omega) ?_) (by decide)
      refine WO.cons (SV.remP rfl rfl (by omega) (by omega) ?_) (by decide)
      refine WO.cons (SV.geq rfl rfl ?_) (by decide)
      refine WO.nil ?_
      by_cases h3 : 2048 ≤ (255 * (4096 : Int)) % 4096
      · have hd3 : decide (2048 ≤ (255 * (4096 : Int)) % 4096) = true := decide_eq_true h3
        refine WC.condT rfl (by assumption) ?_
        refine WC.region ?_
        refine WO.cons (SV.moveV (by constructor) ?_) (by decide)
        refine WO.cons (SV.add64 rfl rfl (by omega) ?_) (by decide)
        refine WO.cons (SV.assignV (by constructor) ?_) (by decide)
        refine WO.nil ?_
        refine WC.seq ?_
        refine WC.region ?_
        refine WO.cons (SV.moveV (by constructor) ?_) (by decide)
        refine WO.cons (SV.conv8 Try.underlying3 Try.underlying5 rfl (by omega) ?_) (by decide)
        refine WO.cons (SV.assignV (by constructor) ?_) (by decide)
        refine WO.nil ?_
        refine WC.ret ?_
        exact fin_one (e := .ret) (v := .int .u8 _) rfl trivial rfl (by omega) hM ⟨congrArg (Value.int .u8) (by rw [he]; omega), rfl⟩
      · have hd3 : decide (2048 ≤ (255 * (4096 : Int)) % 4096) = false := decide_eq_false h3
        refine WC.condF rfl (by assumption) (WC.skip (WC.seq ?_))
        refine WC.region ?_
        refine WO.cons (SV.moveV (by constructor) ?_) (by decide)
        refine WO.cons (SV.conv8 Try.underlying3 Try.underlying5 rfl (by omega) ?_) (by decide)
        refine WO.cons (SV.assignV (by constructor) ?_) (by decide)
        refine WO.nil ?_
        refine WC.ret ?_
        exact fin_one (e := .ret) (v := .int .u8 _) rfl trivial rfl (by omega) hM ⟨congrArg (Value.int .u8) (by rw [he]; omega), rfl⟩
    · have hd2 : decide (4096 < n) = false := decide_eq_false h2
      have he : alphaM n = (255 * n + 2048) / 4096 := by unfold alphaM; rw [if_neg h2, if_neg h1]
      refine WC.condF rfl (by assumption) (WC.skip (WC.seq ?_))
      refine WC.region ?_
      refine WO.cons (SV.moveV (by constructor) ?_) (by decide)
      refine WO.cons (SV.mul64 rfl rfl (by omega) ?_) (by decide)
      refine WO.cons (SV.quoP rfl rfl (by omega) (by omega) ?_) (by decide)
      refine WO.cons (SV.assignV (by constructor) ?_) (by decide)
      refine WO.nil ?_
      refine WC.seq (WC.seq ?_)
      refine WC.region ?_
      refine WO.cons (SV.moveV (by constructor) ?_) (by decide)
      refine WO.cons (SV.mul64 rfl rfl (by omega) ?_) (by decide)
      refine WO.cons (SV.remP rfl rfl (by omega) (by omega) ?_) (by decide)
      refine WO.cons (SV.geq rfl rfl ?_) (by decide)
      refine WO.nil ?_
      by_cases h3 : 2048 ≤ (255 * n) % 4096
      · have hd3 : decide (2048 ≤ (255 * n) % 4096) = true := decide_eq_true h3
        refine WC.condT rfl (by assumption) ?_
        refine WC.region ?_
        refine WO.cons (SV.moveV (by constructor) ?_) (by decide)
        refine WO.cons (SV.add64 rfl rfl (by omega) ?_) (by decide)
        refine WO.cons (SV.assignV (by constructor) ?_) (by decide)
        refine WO.nil ?_
        refine WC.seq ?_
        refine WC.region ?_
        refine WO.cons (SV.moveV (by constructor) ?_) (by decide)
        refine WO.cons (SV.conv8 Try.underlying3 Try.underlying5 rfl (by omega) ?_) (by decide)
        refine WO.cons (SV.assignV (by constructor) ?_) (by decide)
        refine WO.nil ?_
        refine WC.ret ?_
        exact fin_one (e := .ret) (v := .int .u8 _) rfl trivial rfl (by omega) hM ⟨congrArg (Value.int .u8) (by rw [he]; omega), rfl⟩
      · have hd3 : decide (2048 ≤ (255 * n) % 4096) = false := decide_eq_false h3
        refine WC.condF rfl (by assumption) (WC.skip (WC.seq ?_))
        refine WC.region ?_
        refine WO.cons (SV.moveV (by constructor) ?_) (by decide)
        refine WO.cons (SV.conv8 Try.underlying3 Try.underlying5 rfl (by omega) ?_) (by decide)
        refine WO.cons (SV.assignV (by constructor) ?_) (by decide)
        refine WO.nil ?_
        refine WC.ret ?_
        exact fin_one (e := .ret) (v := .int .u8 _) rfl trivial rfl (by omega) hM ⟨congrArg (Value.int .u8) (by rw [he]; omega), rfl⟩
set_option maxHeartbeats 1000000 in
/-- serifref21.Check. -/
theorem checkD_sp {s : St} {H : Hp} {A : Option Addr} {cp : Nat} {p : List (List Spt)} (hX : OwnX X) (hM : Models ro s H) (hp : PolyH H A p) (hb : p.length ≤ 4611686018427387904) (hbig : totM p ≤ 4611686018427387904) :
    Sp X Try.prog ro 13 [.slice A p.length cp] s fun v H' => v = .int .i64 (checkM p) ∧ H' = H := by
  refine Sp.of_body (hX _ _ _ (by decide) (by decide) (by decide) (by decide)) Try.func13 rfl Try.ntmps13 (by simp) ?_
  refine WC.seq ?_
  refine WC.region ?_
  refine WO.cons (SV.assignV (by constructor) ?_) (by decide)
  refine WO.nil ?_
  refine WC.seq ?_
  refine WC.region ?_
  refine WO.cons (SV.assignV (by constructor) ?_) (by decide)
  refine WO.nil ?_
  refine WC.seq (WC.seq ?_)
  refine WC.region ?_
  refine WO.cons (SV.moveV (by constructor) ?_) (by decide)
  refine WO.cons (SV.len rfl rfl ?_) (by decide)
  refine WO.cons (SV.moveV (by constructor) ?_) (by decide)
  refine WO.nil ?_
  refine WC.block ?_
  refine WC.loop (D := Nat × Nat) (fun x => [(0, .slice A p.length cp), (3, .int .i64 x.2), (10, .slice A p.length cp), (11, .int .i64 p.length), (12, .int .i64 x.1)])
    (fun x s1 => s.next ≤ s1.next ∧ Models ro s1 H ∧ x.1 ≤ p.length ∧ x.2 + totM (p.drop x.1) = totM p) (fun x => p.length - x.1) (0, 0) ?_ ⟨by omega, hM, Nat.zero_le _, by simp⟩ ?_
  · exact ⟨rfl, rfl, rfl, rfl, rfl, trivial⟩
  rintro ⟨i, n⟩ g s1 ⟨hn1, hM1, hi, e1⟩
  dsimp only at hi e1 ⊢
  refine WC.seq ?_
  refine WC.region ?_
  refine WO.cons (SV.lss rfl rfl ?_) (by decide)
  refine WO.nil ?_
  refine WC.seq ?_
  refine WC.condD rfl (fun hlt hltb => ?_) (fun hlt hltb => ?_)
  · obtain ⟨c, hc, hdr⟩ := drop_cons (L := p) (i := i) (by omega)
    rw [hdr] at e1
    have t1 : totM (c :: p.drop (i + 1)) = c.length + totM (p.drop (i + 1)) := by unfold totM; simp
    rw [t1] at e1
    obtain ⟨ν, o, B, k, rfl, hcell, hS⟩ := hp i c hc
    refine WC.skip (WC.seq (WC.block (WC.seq ?_)))
    refine WC.region ?_
    refine WO.cons (SV.indexAddr rfl rfl (by omega) ?_) (by decide)
    refine WO.cons (SV.loadC (by assumption) rfl (by assumption) ?_) (by decide)
    refine WO.cons (SV.assignV (by constructor) ?_) (by decide)
    refine WO.nil ?_
    refine WC.region ?_
    refine WO.cons (SV.moveV (by constructor) ?_) (by decide)
    refine WO.cons (SV.moveV (by constructor) ?_) (by decide)
    refine WO.cons (SV.len rfl rfl ?_) (by decide)
    refine WO.cons (SV.add64 rfl rfl (by omega) ?_) (by decide)
    refine WO.cons (SV.assignV (by constructor) ?_) (by decide)
    refine WO.nil ?_
    refine WC.region ?_
    refine WO.cons (SV.add64 rfl rfl (by omega) ?_) (by decide)
    refine WO.cons (SV.moveV (by constructor) ?_) (by decide)
    refine WO.nil ?_
    exact ⟨rfl, (i + 1, n + c.length), ⟨rfl, rfl, rfl, rfl, by show some (Value.int .i64 ((i : Int) + 1)) = _; rfl, trivial⟩, ⟨hn1, hM1, by dsimp only; omega, by dsimp only; omega⟩, by dsimp only; omega⟩
  have hz : p.drop i = [] := List.drop_eq_nil_of_le (by omega)
  rw [hz] at e1
  have e1' : n = totM p := by rw [← e1]; rfl
  subst e1'
  refine WC.exit (WC.seq (WC.seq ?_))
  refine WC.region ?_
  refine WO.cons (SV.moveV (by constructor) ?_) (by decide)
  refine WO.cons (SV.gtr rfl rfl ?_) (by decide)
  refine WO.nil ?_
  by_cases c1 : 16384 < totM p
  · have hd : decide ((16384 : Int) < (totM p : Int)) = true := decide_eq_true (by omega)
    refine WC.condT rfl (by assumption) (WC.seq ?_)
    refine WC.region ?_
    refine WO.cons (SV.assignV (by constructor) ?_) (by decide)
    refine WO.nil ?_
    refine WC.ret ?_
    exact fin_one (e := .ret) (v := .int .i64 _) rfl trivial rfl hn1 hM1 ⟨by unfold checkM; rw [if_pos c1], rfl⟩
  have hd : decide ((16384 : Int) < (totM p : Int)) = false := decide_eq_false (by omega)
  refine WC.condF rfl (by assumption) (WC.skip (WC.seq (WC.seq ?_)))
  refine WC.region ?_
  refine WO.cons (SV.moveV (by constructor) ?_) (by decide)
  refine WO.cons (SV.len rfl rfl ?_) (by decide)
  refine WO.cons (SV.moveV (by constructor) ?_) (by decide)
  refine WO.nil ?_
  refine WC.block ?_
  refine WC.loop (D := Nat) (fun i => [(23, .slice A p.length cp), (24, .int .i64 p.length), (25, .int .i64 i)])
    (fun i s2 => s.next ≤ s2.next ∧ Models ro s2 H ∧ i ≤ p.length ∧ wideM (p.drop i) = wideM p) (fun i => p.length - i) 0 ?_ ⟨by omega, hM1, Nat.zero_le _, by simp⟩ ?_
  · exact ⟨rfl, rfl, rfl, trivial⟩
  clear hM1 hn1 hz e1 hi
  rintro i g s1 ⟨hn1, hM1, hi, e2⟩
  refine WC.seq ?_
  refine WC.region ?_
  refine WO.cons (SV.lss rfl rfl ?_) (by decide)
  refine WO.nil ?_
  refine WC.seq ?_
  refine WC.condD rfl (fun hlt hltb => ?_) (fun hlt hltb => ?_)
  · obtain ⟨c, hc, hdr⟩ := drop_cons (L := p) (i := i) (by omega)
    rw [hdr] at e2
    have t2 : wideM (c :: p.drop (i + 1)) = (c.any badS || wideM (p.drop (i + 1))) := by unfold wideM; simp
    rw [t2] at e2
    have hcl := len_le_tot (List.mem_of_getElem? hc)
    obtain ⟨ν, o, B, k, rfl, hcell, hS⟩ := hp i c hc
    refine WC.skip (WC.seq (WC.block (WC.seq ?_)))
    refine WC.region ?_
    refine WO.cons (SV.indexAddr rfl rfl (by omega) ?_) (by decide)
    refine WO.cons (SV.loadC (by assumption) rfl (by assumption) ?_) (by decide)
    refine WO.cons (SV.assignV (by constructor) ?_) (by decide)
    refine WO.nil ?_
    refine WC.seq ?_
    refine WC.region ?_
    refine WO.cons (SV.moveV (by constructor) ?_) (by decide)
    refine WO.cons (SV.len rfl rfl ?_) (by decide)
    refine WO.cons (SV.moveV (by constructor) ?_) (by decide)
    refine WO.nil ?_
    refine WC.block ?_
    refine WC.loop (D := Nat) (fun j => [(23, .slice (some ⟨ν, o, none⟩) p.length cp), (24, .int .i64 p.length), (25, .int .i64 i), (29, .slice B c.length k), (30, .int .i64 c.length), (31, .int .i64 j)])
      (fun j s2 => s.next ≤ s2.next ∧ Models ro s2 H ∧ j ≤ c.length ∧ (c.drop j).any badS = c.any badS) (fun j => c.length - j) 0 ?_ ⟨by omega, hM1, Nat.zero_le _, by simp⟩ ?_
    · exact ⟨rfl, rfl, rfl, rfl, rfl, rfl, trivial⟩
    rintro j g s2 ⟨hn2, hM2, hj, f1⟩
    refine WC.seq ?_
    refine WC.region ?_
    refine WO.cons (SV.lss rfl rfl ?_) (by decide)
    refine WO.nil ?_
    refine WC.seq ?_
    refine WC.condD rfl (fun hlt2 hlt2b => ?_) (fun hlt2 hlt2b => ?_)
    · obtain ⟨q, hq, hdr2⟩ := drop_cons (L := c) (i := j) (by omega)
      rw [hdr2, List.any_cons] at f1
      obtain ⟨μ, o2, rfl, hq1, hq2⟩ := hS.2 j q hq
      refine WC.skip (WC.seq (WC.block (WC.seq ?_)))
      refine WC.region ?_
      refine WO.cons (SV.indexAddr rfl rfl (by omega) ?_) (by decide)
      refine WO.cons ?_ (by decide)
      refine SV.loadCA (l := [.int .i64 q.1, .int .i64 q.2]) hM2 rfl rfl (fun i v e => ?_) ?_
      · match i, e with
        | 0, e => cases e; exact hq1
        | 1, e => cases e; exact hq2
      refine WO.cons (SV.allocM (by assumption) (fun a14_2 s14_2 hf14_2 hne14_2 hn14_2 hM14_2 => ?_)) (by decide)
      refine WO.cons0 (SV.storeMA (by assumption) rfl rfl rfl rfl (by exact Hp.up_same) (by (simp; done)) (fun s14_3 hn14_3 hM14_3 => ?_))
      refine WO.nil ?_
      rw [Hp.up_up] at hM14_3
      have hsub : ∀ {s9 : St}, Models ro s9 (H.up a14_2 (.row 0 (splice [.int .i64 0, .int .i64 0] 0 [.int .i64 q.1, .int .i64 q.2]))) → Models ro s9 H := fun h => h.sub fun ν o e => Hp.up_ne (hne14_2 ν o e) e
      have hbd : badS q = (!smallD q.1 || !smallD q.2) := rfl
      have bad : badS q = true → checkM p = 214 := fun h => by
        rw [h, Bool.true_or] at f1
        rw [← f1, Bool.true_or] at e2
        unfold checkM
        rw [if_neg c1, if_pos e2.symm]
      refine WC.seq ?_
      refine WC.region ?_
      refine WO.cons (SV.fieldAddr rfl ?_) (by decide)
      refine WO.cons (SV.loadM (by assumption) rfl (by exact Hp.up_same) (by rfl) ?_) (by decide)
      refine WO.cons ?_ (by decide)
      refine SV.callM rfl rfl (within_sp hX hM14_3) ?_
      rintro v s3 H3 hn3 hM3 ⟨rfl, rfl⟩
      cases hs1 : smallD q.1 with
      | false =>
        rw [hs1] at hbd
        refine WO.cons (SV.notF rfl (by rfl) ?_) (by decide)
        refine WO.cons (SV.moveV (by constructor) ?_) (by decide)
        refine WO.guardN rfl rfl rfl (by rfl) ?_ (by decide)
        all_goals (refine WO.guardN rfl rfl rfl (by rfl) ?_ (by decide))
        all_goals (refine WO.guardN rfl rfl rfl (by rfl) ?_ (by decide))
        refine WO.guardN rfl rfl rfl (by rfl) ?_ (by decide)
        all_goals (refine WO.cons (SV.pickTV rfl (by rfl) (by constructor) ?_) (by decide))
        all_goals refine WO.nil ?_
        refine WC.condT rfl (by rfl) (WC.seq ?_)
        refine WC.region ?_
        refine WO.cons (SV.assignV (by constructor) ?_) (by decide)
        refine WO.nil ?_
        refine WC.ret ?_
        exact fin_one (e := .ret) (v := .int .i64 _) rfl trivial rfl (by omega) (hsub hM3) ⟨by rw [bad hbd], rfl⟩
      | true =>
        rw [hs1] at hbd
        refine WO.cons (SV.notT rfl (by rfl) ?_) (by decide)
        refine WO.cons (SV.moveV (by constructor) ?_) (by decide)
        refine WO.guardY rfl rfl rfl (by rfl) (SV.fieldAddr rfl ?_) (by decide)
        all_goals (refine WO.guardY rfl rfl rfl (by rfl) (SV.loadM (by assumption) rfl (by exact Hp.up_same) (by rfl) ?_) (by decide))
        all_goals (refine WO.guardY rfl rfl rfl (by rfl) ?_ (by decide))
        refine SV.callM rfl rfl (within_sp hX hM3) ?_
        rintro v s4 H4 hn4 hM4 ⟨rfl, rfl⟩
        cases hs2 : smallD q.2 with
        | false =>
          rw [hs2] at hbd
          refine WO.guardY rfl rfl rfl (by rfl) (SV.notF rfl (by rfl) ?_) (by decide)
          all_goals (refine WO.cons (SV.pickFV rfl (by rfl) (by constructor) ?_) (by decide))
          all_goals refine WO.nil ?_
          refine WC.condT rfl (by rfl) (WC.seq ?_)
          refine WC.region ?_
          refine WO.cons (SV.assignV (by constructor) ?_) (by decide)
          refine WO.nil ?_
          refine WC.ret ?_
          exact fin_one (e := .ret) (v := .int .i64 _) rfl trivial rfl (by omega) (hsub hM4) ⟨by rw [bad hbd], rfl⟩
        | true =>
          rw [hs2] at hbd
          refine WO.guardY rfl rfl rfl (by rfl) (SV.notT rfl (by rfl) ?_) (by decide)
          all_goals (refine WO.cons (SV.pickFV rfl (by rfl) (by constructor) ?_) (by decide))
          all_goals refine WO.nil ?_
          refine WC.condF rfl (by rfl) (WC.skip ?_)
          refine WC.region ?_
          refine WO.cons (SV.add64 rfl rfl (by omega) ?_) (by decide)
          refine WO.cons (SV.moveV (by constructor) ?_) (by decide)
          refine WO.nil ?_
          exact ⟨rfl, j + 1, ⟨rfl, rfl, rfl, rfl, rfl, by show some (Value.int .i64 ((j : Int) + 1)) = _; rfl, trivial⟩, ⟨by omega, hsub hM4, by omega, by rw [← f1, hbd]; simp⟩, by omega⟩
    · refine WC.exit ?_
      have hz : c.drop j = [] := List.drop_eq_nil_of_le (by omega)
      rw [hz, List.any_nil] at f1
      refine WC.region ?_
      refine WO.cons (SV.add64 rfl rfl (by omega) ?_) (by decide)
      refine WO.cons (SV.moveV (by constructor) ?_) (by decide)
      refine WO.nil ?_
      exact ⟨rfl, i + 1, ⟨rfl, rfl, by show some (Value.int .i64 ((i : Int) + 1)) = _; rfl, trivial⟩, ⟨hn2, hM2, by omega, by rw [← e2, ← f1]; simp⟩, by omega⟩
  · have hz : p.drop i = [] := List.drop_eq_nil_of_le (by omega)
    rw [hz] at e2
    have e2' : wideM p = false := by rw [← e2]; rfl
    refine WC.exit (WC.seq ?_)
    refine WC.region ?_
    refine WO.cons (SV.assignV (by constructor) ?_) (by decide)
    refine WO.nil ?_
    refine WC.ret ?_
    exact fin_one (e := .ret) (v := .int .i64 _) rfl trivial rfl hn1 hM1 ⟨by unfold checkM; rw [if_neg c1, if_neg (by rw [e2']; decide)], rfl⟩
end Go.Proofs.Ytmlplblhabdbpaa

namespace Go.Proofs.Ytmlplblhabdbpaa
open Go.Ab
variable {X : CallE} {ro : Nat}
set_option maxRecDepth 10000
set_option linter.unusedVariables false
set_option linter.unusedSimpArgs false
def encS (s : Spt) : List Value := [.int .i64 s.1, .int .i64 s.2]
theorem encS_len (s : Spt) : (encS s).length = 2 := rfl
theorem src_spot {P : Program} {H : Hp} {B : Option Addr} {c : List Spt} {k : Nat} (h : SpotH H B c) : Src P ro H (.slice B c.length k) 2 c.length (c.flatMap encS) := by
  refine ⟨rfl, by rw [flat_length encS 2 encS_len], ?_, fun s hM => ?_⟩
  · rw [List.all_flatMap]; simp [encS, oneC]
  · cases hc : c with
    | nil =>
      cases B with
      | none => rfl
      | some a =>
        simp only [firstL, List.length_nil]
        cases a.spot <;> rfl
    | cons a l =>
      obtain ⟨ν, o, rfl, _⟩ := h.2 0 a (by rw [hc]; rfl)
      rw [← hc]
      simp only [firstL]
      refine ldCells_of (fun i v hv => ?_) (by rw [flat_length encS 2 encS_len])
      have hi := (List.getElem?_eq_some_iff.mp hv).1
      rw [flat_length encS 2 encS_len] at hi
      have hj : i / 2 < c.length := by omega
      have hf := flat_get encS 2 encS_len c (i / 2) hj (i % 2) (by omega)
      rw [show i / 2 * 2 + i % 2 = i by omega] at hf
      rw [hf] at hv
      obtain ⟨ν', o', e, h1, h2⟩ := h.2 (i / 2) c[i / 2] (List.getElem?_eq_getElem hj)
      cases e
      rcases (show i % 2 = 0 ∨ i % 2 = 1 by omega) with hm | hm <;> rw [hm] at hv <;> cases hv
      · rw [show o + i = o + i / 2 * 2 by omega]; exact cellH_ld hM h1
      · rw [show o + i = o + i / 2 * 2 + 1 by omega]; exact cellH_ld hM h2
theorem spot_own {H : Hp} {B : Option Addr} {n k : Nat} {c : List Spt} (h : SlO H (.slice B n k) 2 n (c.flatMap encS)) (hn : c.length = n) : SpotH H B c := by
  refine ⟨trivial, fun j s hs => ?_⟩
  rcases h with ⟨h, rfl, _⟩ | ⟨ν, k', ws, h, h1, h2, h3, h4⟩
  · rw [List.length_eq_zero_iff.mp hn] at hs; cases hs
  · cases h
    obtain ⟨ws', h1', _, _, _, h5, _⟩ := SlO.get (enc := encS) (.inr ⟨ν, k, ws, rfl, h1, h2, h3, h4⟩) encS_len hn hs
    refine ⟨ν, 0, rfl, ?_, ?_⟩
    · unfold cellH; rw [h1', Nat.zero_add]; exact h5 0 _ rfl
    · unfold cellH; rw [h1', Nat.zero_add]; exact h5 1 _ rfl
def oneS (v : Value) : List Value := [v]
theorem oneS_len (v : Value) : (oneS v).length = 1 := rfl
theorem spot_kept {H H' : Hp} {B : Option Addr} {c : List Spt} {v : Value} (h : SpotH H B c) (hk : KeptBut H H' v) (hb : c ≠ [] → ∀ a, B = some a → baseV v ≠ some a.block) : SpotH H' B c := by
  refine ⟨h.1, fun j s e => ?_⟩
  obtain ⟨ν, o, rfl, h1, h2⟩ := h.2 j s e
  have hne := hb (fun e2 => by rw [e2] at e; cases e) _ rfl
  have g : ∀ {k : Nat} {u : Value}, cellH H ν k = some u → cellH H' ν k = some u := fun {k u} hc => by
    unfold cellH at hc ⊢
    cases e3 : H ν with
    | none => rw [e3] at hc; cases hc
    | some o => rw [hk ν o e3 hne]; rw [e3] at hc; exact hc
  exact ⟨ν, o, rfl, g h1, g h2⟩
theorem cell_some {H : Hp} {ν k : Nat} {u : Value} (h : cellH H ν k = some u) : ∃ o, H ν = some o := by
  unfold cellH at h
  cases e : H ν with
  | none => rw [e] at h; cases h
  | some o => exact ⟨o, rfl⟩
theorem spot_some {H : Hp} {B : Option Addr} {c : List Spt} (h : SpotH H B c) (hc : c ≠ []) : ∀ a, B = some a → ∃ o, H a.block = some o := by
  intro a ha
  obtain ⟨s, hs⟩ : ∃ s, c[0]? = some s := by cases c with | nil => exact absurd rfl hc | cons s l => exact ⟨s, rfl⟩
  obtain ⟨ν, o, e, h1, _⟩ := h.2 0 s hs
  rw [ha] at e; cases e
  exact cell_some h1
/-- The copies that are made so far. -/
structure CpI (H H1 : Hp) (vo : Value) (S : List Value) (q : List (List Spt)) : Prop where
  ex : Ext H H1
  len : S.length = q.length
  out : SlO H1 vo 1 q.length (S.flatMap oneS)
  fr : ∀ μ, baseV vo = some μ → H μ = none
  at_ : ∀ (k : Nat) c, q[k]? = some c → ∃ B cap, S[k]? = some (.slice B c.length cap) ∧ SpotH H1 B c ∧ (c ≠ [] → ∀ a, B = some a → baseV vo ≠ some a.block)

set_option maxHeartbeats 1000000 in
/-- serifref21.Copy. -/
theorem copy_sp {s : St} {H : Hp} {A : Option Addr} {cp : Nat} {p : List (List Spt)} (hX : OwnX X) (hM : Models ro s H) (hp : PolyH H A p) (hb : p.length ≤ 1000000000000) (hbig : totM p ≤ 1000000000000) :
    Sp X Try.prog ro 10 [.slice A p.length cp] s fun v H' => ∃ A' c', v = .slice A' p.length c' ∧ PolyH H' A' p ∧ Ext H H' := by
  refine Sp.of_body (hX _ _ _ (by decide) (by decide) (by decide) (by decide)) Try.func10 rfl Try.ntmps10 (by simp) ?_
  refine WC.seq ?_
  refine WC.region ?_
  refine WO.cons (SV.assignV (by constructor) ?_) (by decide)
  refine WO.nil ?_
  refine WC.seq ?_
  refine WC.region ?_
  refine WO.cons (SV.buildSliceM (by assumption) rfl rfl (fun a1_0 s1_0 hf1_0 hne1_0 hn1_0 hM1_0 => ?_)) (by decide)
  refine WO.cons (SV.assignV (by constructor) ?_) (by decide)
  refine WO.nil ?_
  replace hM1_0 : Models ro s1_0 (H.up a1_0 (.row 1 [])) := hM1_0
  have hE0 : Ext H (H.up a1_0 (.row 1 [])) := ext_up hne1_0
  refine WC.seq (WC.seq ?_)
  refine WC.region ?_
  refine WO.cons (SV.moveV (by constructor) ?_) (by decide)
  refine WO.cons (SV.len rfl rfl ?_) (by decide)
  refine WO.cons (SV.moveV (by constructor) ?_) (by decide)
  refine WO.nil ?_
  refine WC.block ?_
  refine WC.loop (D := Nat × Value × List Value) (fun x => [(3, x.2.1), (8, .slice A p.length cp), (9, .int .i64 p.length), (10, .int .i64 x.1)])
    (fun x s1 => s.next ≤ s1.next ∧ ∃ H1, Models ro s1 H1 ∧ x.1 ≤ p.length ∧ CpI H H1 x.2.1 x.2.2 (p.take x.1)) (fun x => p.length - x.1) (0, .slice (some ⟨a1_0, 0, none⟩) 0 0, []) ?_ ⟨by omega, _, hM1_0, Nat.zero_le _, ?_⟩ ?_
  · exact ⟨rfl, rfl, rfl, rfl, trivial⟩
  · exact { ex := hE0, len := by simp, out := .inr ⟨a1_0, 0, [], rfl, Hp.up_same, rfl, by simp, by simp⟩, fr := (fun μ h => by cases h; exact hf1_0), at_ := (fun k c h => by simp at h) }
  rintro ⟨i, vo, S⟩ g s1 ⟨hn1, H1, hM1, hi, hI⟩
  dsimp only at hi hI ⊢
  have hil : (p.take i).length = i := by rw [List.length_take]; omega
  refine WC.seq ?_
  refine WC.region ?_
  refine WO.cons (SV.lss rfl rfl ?_) (by decide)
  refine WO.nil ?_
  refine WC.seq ?_
  refine WC.condD rfl (fun hlt hltb => ?_) (fun hlt hltb => ?_)
  · obtain ⟨c, hc, hdr⟩ := drop_cons (L := p) (i := i) (by omega)
    have hcl := len_le_tot (List.mem_of_getElem? hc)
    obtain ⟨ν, o, B, k, rfl, hcell, hS⟩ := (hp.ext hI.ex) i c hc
    refine WC.skip (WC.seq (WC.block (WC.seq ?_)))
    refine WC.region ?_
    refine WO.cons (SV.indexAddr rfl rfl (by omega) ?_) (by decide)
    refine WO.cons (SV.loadC (by assumption) rfl (by assumption) ?_) (by decide)
    refine WO.cons (SV.assignV (by constructor) ?_) (by decide)
    refine WO.nil ?_
    refine WC.seq ?_
    refine WC.region ?_
    refine WO.cons (SV.buildSliceM (by assumption) rfl rfl (fun a5_0 s5_0 hf5_0 hne5_0 hn5_0 hM5_0 => ?_)) (by decide)
    refine WO.cons (SV.assignV (by constructor) ?_) (by decide)
    refine WO.nil ?_
    replace hM5_0 : Models ro s5_0 (H1.up a5_0 (.row 2 [])) := hM5_0
    have hE5 : Ext H1 (H1.up a5_0 (.row 2 [])) := ext_up hne5_0
    have hr0 : SlO (H1.up a5_0 (.row 2 [])) (.slice (some ⟨a5_0, 0, none⟩) 0 0) 2 0 [] := .inr ⟨a5_0, 0, [], rfl, Hp.up_same, rfl, by simp, by simp⟩
    have hvo5 : baseV vo ≠ some a5_0 := fun h => by
      obtain ⟨o, e⟩ := hI.out.base_some h
      exact hne5_0 _ _ e rfl
    refine WC.region ?_
    refine WO.cons (SV.move ?_) (by decide)
    refine WO.cons (SV.moveV (by constructor) ?_) (by decide)
    refine WO.cons (SV.moveV (by constructor) ?_) (by decide)
    refine WO.cons ?_ (by decide)
    refine SV.appendM (sz := 2) (sz' := 2) (n := 0) (m := c.length) (vs := []) (xs := c.flatMap encS) rfl hM5_0 rfl rfl hr0 (src_spot (hS.ext hE5)) rfl (by omega) (fun v8 s8 H8 hn8 hM8 hv8 hk8 hnew8 _ => ?_)
    rw [List.nil_append, Nat.zero_add] at hv8
    obtain ⟨B8, k8, rfl⟩ : ∃ B k, v8 = .slice B c.length k := by
      rcases hv8 with ⟨rfl, h, _⟩ | ⟨ν, k, ws, rfl, _⟩
      · exact ⟨none, 0, by rw [h]⟩
      · exact ⟨_, k, rfl⟩
    have hS8 := spot_own hv8 rfl
    have hE18 : Ext H1 H8 := fun μ o e => hk8 μ o (hE5 μ o e) (fun h => hne5_0 μ o e (by cases h; rfl))
    have hb8 : ∀ a, B8 = some a → baseV vo ≠ some a.block := fun a ha h => by
      obtain ⟨o, e⟩ := hI.out.base_some h
      rcases hnew8 a.block (by rw [ha]; rfl) with h2 | h2
      · cases h2; exact hne5_0 _ _ e rfl
      · rw [hE5 _ _ e] at h2; cases h2
    refine WO.cons (SV.buildSliceM (by assumption) rfl rfl (fun a6_4 s6_4 hf6_4 hne6_4 hn6_4 hM6_4 => ?_)) (by decide)
    refine WO.cons ?_ (by decide)
    replace hM6_4 : Models ro s6_4 (H8.up a6_4 (.row 1 (oneS (.slice B8 c.length k8)))) := hM6_4
    have hE9 : Ext H8 (H8.up a6_4 (.row 1 (oneS (.slice B8 c.length k8)))) := ext_up hne6_4
    have hE19 := hE18.trans hE9
    have hout9 := slO_ext hI.out fun μ o _ e => hE19 μ o e
    rw [hil] at hout9
    refine SV.appendM (sz := 1) (sz' := 1) (n := i) (m := 1) (vs := S.flatMap oneS) (xs := oneS (.slice B8 c.length k8)) rfl hM6_4 rfl rfl hout9 (Src.row Hp.up_same rfl rfl (fun i v hv => by rw [Nat.zero_add]; exact hv)) rfl (by omega) (fun v10 s10 H10 hn10 hM10 hv10 hk10 hnew10 _ => ?_)
    refine WO.cons (SV.assign ?_) (by decide)
    refine WO.nil ?_
    refine WC.region ?_
    refine WO.cons (SV.add64 rfl rfl (by omega) ?_) (by decide)
    refine WO.cons (SV.moveV (by constructor) ?_) (by decide)
    refine WO.nil ?_
    have htk : p.take (i + 1) = p.take i ++ [c] := by rw [List.take_add_one, hc]; rfl
    refine ⟨rfl, (i + 1, v10, S ++ [.slice B8 c.length k8]), ⟨rfl, rfl, rfl, by show some (Value.int .i64 ((i : Int) + 1)) = _; rfl, trivial⟩, ⟨by omega, H10, hM10, by dsimp only; omega, ?_⟩, by dsimp only; omega⟩
    have hnb : ∀ {c' : List Spt} {B' : Option Addr}, SpotH (H8.up a6_4 (.row 1 (oneS (.slice B8 c.length k8)))) B' c' → (c' ≠ [] → ∀ a, B' = some a → baseV vo ≠ some a.block) → c' ≠ [] → ∀ a, B' = some a → baseV v10 ≠ some a.block := fun {c' B'} hs hb hne a ha h => by
      rcases hnew10 _ h with h2 | h2
      · exact hb hne a ha h2
      · obtain ⟨o, e⟩ := spot_some hs hne a ha
        rw [e] at h2; cases h2
    refine { ex := (hI.ex.trans hE19).kept hk10 hI.fr, len := by dsimp only; rw [htk]; simp [hI.len], out := by dsimp only; rw [htk, List.flatMap_append, List.length_append, hil]; simpa using hv10, fr := hnew10.none (hI.ex.trans hE19) hI.fr, at_ := fun k' c' hk' => ?_ }
    dsimp only at hk' ⊢
    rw [htk] at hk'
    by_cases hki : k' < i
    · rw [List.getElem?_append_left (by rw [hil]; exact hki)] at hk'
      obtain ⟨B', cap', h1, h2, h3⟩ := hI.at_ k' c' hk'
      refine ⟨B', cap', by rw [List.getElem?_append_left (by rw [hI.len, hil]; exact hki)]; exact h1, spot_kept (h2.ext hE19) hk10 h3, hnb (h2.ext hE19) h3⟩
    · obtain rfl : k' = i := by
        have := (List.getElem?_eq_some_iff.mp hk').1
        rw [List.length_append, hil] at this
        simp at this; omega
      rw [List.getElem?_append_right (by rw [hil]; exact Nat.le_refl _), hil, Nat.sub_self] at hk'
      cases hk'
      refine ⟨B8, k8, by rw [List.getElem?_append_right (by rw [hI.len, hil]; exact Nat.le_refl _), hI.len, hil, Nat.sub_self]; rfl, spot_kept (hS8.ext hE9) hk10 (fun _ => hb8), hnb (hS8.ext hE9) (fun _ => hb8)⟩
  · obtain rfl : i = p.length := by omega
    rw [List.take_length] at hI
    refine WC.exit (WC.seq ?_)
    refine WC.region ?_
    refine WO.cons (SV.move ?_) (by decide)
    refine WO.cons (SV.assign ?_) (by decide)
    refine WO.nil ?_
    refine WC.ret ?_
    refine fin_one (e := .ret) (v := vo) rfl trivial rfl hn1 hM1 ?_
    have hout := hI.out
    rcases hout with ⟨rfl, h, _⟩ | ⟨ν, k, ws, rfl, h1, h2, h3, h4⟩
    · refine ⟨none, 0, by rw [h], fun i c hc => ?_, hI.ex⟩
      rw [List.length_eq_zero_iff.mp h] at hc; cases hc
    · refine ⟨_, k, rfl, fun i c hc => ?_, hI.ex⟩
      obtain ⟨B, cap, e1, e2, _⟩ := hI.at_ i c hc
      obtain ⟨ws', g1, _, _, _, g2, _⟩ := SlO.get (enc := oneS) hI.out oneS_len hI.len e1
      refine ⟨ν, 0, B, cap, rfl, ?_, e2⟩
      unfold cellH; rw [g1, Nat.zero_add]; exact g2 0 _ rfl
end Go.Proofs.Ytmlplblhabdbpaa
