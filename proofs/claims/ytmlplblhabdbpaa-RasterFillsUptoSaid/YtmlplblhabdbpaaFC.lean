/- A part of the proof: rules for walking code over the evaluator, and what the functions that were walked come to: no condition but those that each theorem states. -/
import Derived.Test.YtmlplblhabdbpaaFB
import Derived.Test.YtmlplblhabdbpaaLgB
set_option linter.unusedVariables false
set_option linter.unusedSimpArgs false
namespace Go.Proofs.Ytmlplblhabdbpaa
open Go.Ab
variable {X : CallE} {ro : Nat}
set_option maxRecDepth 10000
set_option linter.unusedVariables false
set_option linter.unusedSimpArgs false
theorem ext_up2 {H : Hp} {a b : Nat} {o o' : Go.Ab.Obj} (h : ∀ ν o, H ν = some o → ν ≠ a) (h2 : ∀ ν o, (H.up a o') ν = some o → ν ≠ b) : Ext H ((H.up a o').up b o) := (ext_up h).up fun ν o e => h2 ν o (Hp.up_ne (h ν o e) e)
/-- serifref21.Same. -/
theorem same_sp {s : St} {H : Hp} {x1 y1 w1 h1 x2 y2 w2 h2 : Int} {va vb : Value} {ca cb : List Int} (hX : OwnX X) (hM : Models ro s H) (hva : SlO H va 1 ca.length (ca.map (.int .u8))) (hvb : SlO H vb 1 cb.length (cb.map (.int .u8))) (hca : ∀ z ∈ ca, 0 ≤ z ∧ z < 256) (hcb : ∀ z ∈ cb, 0 ≤ z ∧ z < 256) :
    Sp X Try.prog ro 14 [.agg #[.int .i64 x1, .int .i64 y1, .int .i64 w1, .int .i64 h1, va], .agg #[.int .i64 x2, .int .i64 y2, .int .i64 w2, .int .i64 h2, vb]] s fun v H' => v = .bool (decide (x1 = x2 ∧ y1 = y2 ∧ w1 = w2 ∧ h1 = h2 ∧ ca = cb)) ∧ H' = H := by
  obtain ⟨A1, c1, rfl⟩ := slO_form hva
  obtain ⟨A2, c2, rfl⟩ := slO_form hvb
  refine Sp.of_body (hX _ _ _ (by decide) (by decide) (by decide) (by decide)) Try.func14 rfl Try.ntmps14 (by simp) ?_
  refine WC.seq ?_
  refine WC.region ?_
  refine WO.cons (SV.boxM (by assumption) rfl (fun a0_0 s0_0 hf0_0 hne0_0 hn0_0 hM0_0 => ?_)) (by decide)
  refine WO.cons (SV.boxM (by assumption) rfl (fun a0_1 s0_1 hf0_1 hne0_1 hn0_1 hM0_1 => ?_)) (by decide)
  refine WO.cons (SV.assignV (by constructor) ?_) (by decide)
  refine WO.nil ?_
  replace hM0_1 : Models ro s0_1 ((H.up a0_0 (.row 0 [.int .i64 x1, .int .i64 y1, .int .i64 w1, .int .i64 h1, .slice A1 ca.length c1])).up a0_1 (.row 0 [.int .i64 x2, .int .i64 y2, .int .i64 w2, .int .i64 h2, .slice A2 cb.length c2])) := hM0_1
  have hE2 : Ext H ((H.up a0_0 (.row 0 [.int .i64 x1, .int .i64 y1, .int .i64 w1, .int .i64 h1, .slice A1 ca.length c1])).up a0_1 (.row 0 [.int .i64 x2, .int .i64 y2, .int .i64 w2, .int .i64 h2, .slice A2 cb.length c2])) := ext_up2 hne0_0 hne0_1
  have hr0 : (H.up a0_0 (.row 0 [.int .i64 x1, .int .i64 y1, .int .i64 w1, .int .i64 h1, .slice A1 ca.length c1])) a0_0 = some (.row 0 [.int .i64 x1, .int .i64 y1, .int .i64 w1, .int .i64 h1, .slice A1 ca.length c1]) := Hp.up_same
  have hne : a0_0 ≠ a0_1 := hne0_1 _ _ hr0
  have hr2 := Hp.up_ne (o := .row 0 [.int .i64 x2, .int .i64 y2, .int .i64 w2, .int .i64 h2, .slice A2 cb.length c2]) hne hr0
  have hr1 : ((H.up a0_0 (.row 0 [.int .i64 x1, .int .i64 y1, .int .i64 w1, .int .i64 h1, .slice A1 ca.length c1])).up a0_1 (.row 0 [.int .i64 x2, .int .i64 y2, .int .i64 w2, .int .i64 h2, .slice A2 cb.length c2])) a0_1 = some (.row 0 [.int .i64 x2, .int .i64 y2, .int .i64 w2, .int .i64 h2, .slice A2 cb.length c2]) := Hp.up_same
  generalize (H.up a0_0 (.row 0 [.int .i64 x1, .int .i64 y1, .int .i64 w1, .int .i64 h1, .slice A1 ca.length c1])).up a0_1 (.row 0 [.int .i64 x2, .int .i64 y2, .int .i64 w2, .int .i64 h2, .slice A2 cb.length c2]) = H2 at *
  by_cases e1 : x1 = x2
  rotate_left
  · have hd1 : decide (x1 = x2) = false := decide_eq_false e1
    refine WC.seq ?_
    refine WC.region ?_
    refine WO.cons (SV.fieldAddr rfl ?_) (by decide)
    refine WO.cons (SV.loadM (by assumption) rfl (by assumption) (by rfl) ?_) (by decide)
    refine WO.cons (SV.fieldAddr rfl ?_) (by decide)
    refine WO.cons (SV.loadM (by assumption) rfl (by assumption) (by rfl) ?_) (by decide)
    refine WO.cons (SV.eqlI rfl rfl ?_) (by decide)
    refine WO.cons (SV.moveV (by constructor) ?_) (by decide)
    refine WO.guardN rfl rfl rfl (by assumption) ?_ (by decide)
    all_goals (refine WO.guardN rfl rfl rfl (by assumption) ?_ (by decide))
    all_goals (refine WO.guardN rfl rfl rfl (by assumption) ?_ (by decide))
    all_goals (refine WO.guardN rfl rfl rfl (by assumption) ?_ (by decide))
    all_goals (refine WO.guardN rfl rfl rfl (by assumption) ?_ (by decide))
    all_goals (refine WO.cons (SV.pickFV rfl (by assumption) (by constructor) ?_) (by decide))
    all_goals refine WO.cons (SV.moveV (by constructor) ?_) (by decide)
    all_goals (refine WO.guardN rfl rfl rfl (by rfl) ?_ (by decide))
    all_goals (refine WO.guardN rfl rfl rfl (by rfl) ?_ (by decide))
    all_goals (refine WO.guardN rfl rfl rfl (by rfl) ?_ (by decide))
    all_goals (refine WO.guardN rfl rfl rfl (by rfl) ?_ (by decide))
    all_goals (refine WO.guardN rfl rfl rfl (by rfl) ?_ (by decide))
    all_goals (refine WO.cons (SV.pickFV rfl (by rfl) (by constructor) ?_) (by decide))
    all_goals refine WO.cons (SV.moveV (by constructor) ?_) (by decide)
    all_goals (refine WO.guardN rfl rfl rfl (by rfl) ?_ (by decide))
    all_goals (refine WO.guardN rfl rfl rfl (by rfl) ?_ (by decide))
    all_goals (refine WO.guardN rfl rfl rfl (by rfl) ?_ (by decide))
    all_goals (refine WO.guardN rfl rfl rfl (by rfl) ?_ (by decide))
    all_goals (refine WO.guardN rfl rfl rfl (by rfl) ?_ (by decide))
    all_goals (refine WO.cons (SV.pickFV rfl (by rfl) (by constructor) ?_) (by decide))
    all_goals refine WO.cons (SV.moveV (by constructor) ?_) (by decide)
    all_goals (refine WO.guardN rfl rfl rfl (by rfl) ?_ (by decide))
    all_goals (refine WO.guardN rfl rfl rfl (by rfl) ?_ (by decide))
    all_goals (refine WO.guardN rfl rfl rfl (by rfl) ?_ (by decide))
    refine WO.guardN rfl rfl rfl (by rfl) ?_ (by decide)
    all_goals (refine WO.guardN rfl rfl rfl (by rfl) ?_ (by decide))
    all_goals (refine WO.guardN rfl rfl rfl (by rfl) ?_ (by decide))
    refine WO.guardN rfl rfl rfl (by rfl) ?_ (by decide)
    all_goals (refine WO.cons (SV.pickFV rfl (by rfl) (by constructor) ?_) (by decide))
    all_goals refine WO.cons (SV.assignV (by constructor) ?_) (by decide)
    all_goals refine WO.nil ?_
    refine WC.ret ?_
    refine fin_one (e := .ret) (v := .bool _) rfl trivial rfl (by omega) (hM0_1.sub hE2) ⟨?_, rfl⟩
    rw [decide_eq_false (by simp [e1])]
  have hd1 : decide (x1 = x2) = true := decide_eq_true e1
  by_cases e2 : y1 = y2
  rotate_left
  · have hd2 : decide (y1 = y2) = false := decide_eq_false e2
    refine WC.seq ?_
    refine WC.region ?_
    refine WO.cons (SV.fieldAddr rfl ?_) (by decide)
    refine WO.cons (SV.loadM (by assumption) rfl (by assumption) (by rfl) ?_) (by decide)
    refine WO.cons (SV.fieldAddr rfl ?_) (by decide)
    refine WO.cons (SV.loadM (by assumption) rfl (by assumption) (by rfl) ?_) (by decide)
    refine WO.cons (SV.eqlI rfl rfl ?_) (by decide)
    refine WO.cons (SV.moveV (by constructor) ?_) (by decide)
    refine WO.guardY rfl rfl rfl (by assumption) (SV.fieldAddr rfl ?_) (by decide)
    all_goals (refine WO.guardY rfl rfl rfl (by assumption) (SV.loadM (by assumption) rfl (by assumption) (by rfl) ?_) (by decide))
    all_goals (refine WO.guardY rfl rfl rfl (by assumption) (SV.fieldAddr rfl ?_) (by decide))
    all_goals (refine WO.guardY rfl rfl rfl (by assumption) (SV.loadM (by assumption) rfl (by assumption) (by rfl) ?_) (by decide))
    all_goals (refine WO.guardY rfl rfl rfl (by assumption) (SV.eqlI rfl rfl ?_) (by decide))
    all_goals (refine WO.cons (SV.pickTV rfl (by assumption) (by constructor) ?_) (by decide))
    all_goals refine WO.cons (SV.moveV (by constructor) ?_) (by decide)
    all_goals (refine WO.guardN rfl rfl rfl (by assumption) ?_ (by decide))
    all_goals (refine WO.guardN rfl rfl rfl (by assumption) ?_ (by decide))
    all_goals (refine WO.guardN rfl rfl rfl (by assumption) ?_ (by decide))
    all_goals (refine WO.guardN rfl rfl rfl (by assumption) ?_ (by decide))
    all_goals (refine WO.guardN rfl rfl rfl (by assumption) ?_ (by decide))
    all_goals (refine WO.cons (SV.pickFV rfl (by assumption) (by constructor) ?_) (by decide))
    all_goals refine WO.cons (SV.moveV (by constructor) ?_) (by decide)
    all_goals (refine WO.guardN rfl rfl rfl (by rfl) ?_ (by decide))
    all_goals (refine WO.guardN rfl rfl rfl (by rfl) ?_ (by decide))
    all_goals (refine WO.guardN rfl rfl rfl (by rfl) ?_ (by decide))
    all_goals (refine WO.guardN rfl rfl rfl (by rfl) ?_ (by decide))
    all_goals (refine WO.guardN rfl rfl rfl (by rfl) ?_ (by decide))
    all_goals (refine WO.cons (SV.pickFV rfl (by rfl) (by constructor) ?_) (by decide))
    all_goals refine WO.cons (SV.moveV (by constructor) ?_) (by decide)
    all_goals (refine WO.guardN rfl rfl rfl (by rfl) ?_ (by decide))
    all_goals (refine WO.guardN rfl rfl rfl (by rfl) ?_ (by decide))
    all_goals (refine WO.guardN rfl rfl rfl (by rfl) ?_ (by decide))
    refine WO.guardN rfl rfl rfl (by rfl) ?_ (by decide)
    all_goals (refine WO.guardN rfl rfl rfl (by rfl) ?_ (by decide))
    all_goals (refine WO.guardN rfl rfl rfl (by rfl) ?_ (by decide))
    refine WO.guardN rfl rfl rfl (by rfl) ?_ (by decide)
    all_goals (refine WO.cons (SV.pickFV rfl (by rfl) (by constructor) ?_) (by decide))
    all_goals refine WO.cons (SV.assignV (by constructor) ?_) (by decide)
    all_goals refine WO.nil ?_
    refine WC.ret ?_
    refine fin_one (e := .ret) (v := .bool _) rfl trivial rfl (by omega) (hM0_1.sub hE2) ⟨?_, rfl⟩
    rw [decide_eq_false (by simp [e2])]
  have hd2 : decide (y1 = y2) = true := decide_eq_true e2
  by_cases e3 : w1 = w2
  rotate_left
  · have hd3 : decide (w1 = w2) = false := decide_eq_false e3
    refine WC.seq ?_
    refine WC.region ?_
    refine WO.cons (SV.fieldAddr rfl ?_) (by decide)
    refine WO.cons (SV.loadM (by assumption) rfl (by assumption) (by rfl) ?_) (by decide)
    refine WO.cons (SV.fieldAddr rfl ?_) (by decide)
    refine WO.cons (SV.loadM (by assumption) rfl (by assumption) (by rfl) ?_) (by decide)
    refine WO.cons (SV.eqlI rfl rfl ?_) (by decide)
    refine WO.cons (SV.moveV (by constructor) ?_) (by decide)
    refine WO.guardY rfl rfl rfl (by assumption) (SV.fieldAddr rfl ?_) (by decide)
    all_goals (refine WO.guardY rfl rfl rfl (by assumption) (SV.loadM (by assumption) rfl (by assumption) (by rfl) ?_) (by decide))
    all_goals (refine WO.guardY rfl rfl rfl (by assumption) (SV.fieldAddr rfl ?_) (by decide))
    all_goals (refine WO.guardY rfl rfl rfl (by assumption) (SV.loadM (by assumption) rfl (by assumption) (by rfl) ?_) (by decide))
    all_goals (refine WO.guardY rfl rfl rfl (by assumption) (SV.eqlI rfl rfl ?_) (by decide))
    all_goals (refine WO.cons (SV.pickTV rfl (by assumption) (by constructor) ?_) (by decide))
    all_goals refine WO.cons (SV.moveV (by constructor) ?_) (by decide)
    all_goals (refine WO.guardY rfl rfl rfl (by assumption) (SV.fieldAddr rfl ?_) (by decide))
    all_goals (refine WO.guardY rfl rfl rfl (by assumption) (SV.loadM (by assumption) rfl (by assumption) (by rfl) ?_) (by decide))
    all_goals (refine WO.guardY rfl rfl rfl (by assumption) (SV.fieldAddr rfl ?_) (by decide))
    all_goals (refine WO.guardY rfl rfl rfl (by assumption) (SV.loadM (by assumption) rfl (by assumption) (by rfl) ?_) (by decide))
    all_goals (refine WO.guardY rfl rfl rfl (by assumption) (SV.eqlI rfl rfl ?_) (by decide))
    all_goals (refine WO.cons (SV.pickTV rfl (by assumption) (by constructor) ?_) (by decide))
    all_goals refine WO.cons (SV.moveV (by constructor) ?_) (by decide)
    all_goals (refine WO.guardN rfl rfl rfl (by assumption) ?_ (by decide))
    all_goals (refine WO.guardN rfl rfl rfl (by assumption) ?_ (by decide))
    all_goals (refine WO.guardN rfl rfl rfl (by assumption) ?_ (by decide))
    all_goals (refine WO.guardN rfl rfl rfl (by assumption) ?_ (by decide))
    all_goals (refine WO.guardN rfl rfl rfl (by assumption) ?_ (by decide))
    all_goals (refine WO.cons (SV.pickFV rfl (by assumption) (by constructor) ?_) (by decide))
    all_goals refine WO.cons (SV.moveV (by constructor) ?_) (by decide)
    all_goals (refine WO.guardN rfl rfl rfl (by rfl) ?_ (by decide))
    all_goals (refine WO.guardN rfl rfl rfl (by rfl) ?_ (by decide))
    all_goals (refine WO.guardN rfl rfl rfl (by rfl) ?_ (by decide))
    refine WO.guardN rfl rfl rfl (by rfl) ?_ (by decide)
    all_goals (refine WO.guardN rfl rfl rfl (by rfl) ?_ (by decide))
    all_goals (refine WO.guardN rfl rfl rfl (by rfl) ?_ (by decide))
    refine WO.guardN rfl rfl rfl (by rfl) ?_ (by decide)
    all_goals (refine WO.cons (SV.pickFV rfl (by rfl) (by constructor) ?_) (by decide))
    all_goals refine WO.cons (SV.assignV (by constructor) ?_) (by decide)
    all_goals refine WO.nil ?_
    refine WC.ret ?_
    refine fin_one (e := .ret) (v := .bool _) rfl trivial rfl (by omega) (hM0_1.sub hE2) ⟨?_, rfl⟩
    rw [decide_eq_false (by simp [e3])]
  have hd3 : decide (w1 = w2) = true := decide_eq_true e3
  by_cases e4 : h1 = h2
  rotate_left
  · have hd4 : decide (h1 = h2) = false := decide_eq_false e4
    refine WC.seq ?_
    refine WC.region ?_
    refine WO.cons (SV.fieldAddr rfl ?_) (by decide)
    refine WO.cons (SV.loadM (by assumption) rfl (by assumption) (by rfl) ?_) (by decide)
    refine WO.cons (SV.fieldAddr rfl ?_) (by decide)
    refine WO.cons (SV.loadM (by assumption) rfl (by assumption) (by rfl) ?_) (by decide)
    refine WO.cons (SV.eqlI rfl rfl ?_) (by decide)
    refine WO.cons (SV.moveV (by constructor) ?_) (by decide)
    refine WO.guardY rfl rfl rfl (by assumption) (SV.fieldAddr rfl ?_) (by decide)
    all_goals (refine WO.guardY rfl rfl rfl (by assumption) (SV.loadM (by assumption) rfl (by assumption) (by rfl) ?_) (by decide))
    all_goals (refine WO.guardY rfl rfl rfl (by assumption) (SV.fieldAddr rfl ?_) (by decide))
    all_goals (refine WO.guardY rfl rfl rfl (by assumption) (SV.loadM (by assumption) rfl (by assumption) (by rfl) ?_) (by decide))
    all_goals (refine WO.guardY rfl rfl rfl (by assumption) (SV.eqlI rfl rfl ?_) (by decide))
    all_goals (refine WO.cons (SV.pickTV rfl (by assumption) (by constructor) ?_) (by decide))
    all_goals refine WO.cons (SV.moveV (by constructor) ?_) (by decide)
    all_goals (refine WO.guardY rfl rfl rfl (by assumption) (SV.fieldAddr rfl ?_) (by decide))
    all_goals (refine WO.guardY rfl rfl rfl (by assumption) (SV.loadM (by assumption) rfl (by assumption) (by rfl) ?_) (by decide))
    all_goals (refine WO.guardY rfl rfl rfl (by assumption) (SV.fieldAddr rfl ?_) (by decide))
    all_goals (refine WO.guardY rfl rfl rfl (by assumption) (SV.loadM (by assumption) rfl (by assumption) (by rfl) ?_) (by decide))
    all_goals (refine WO.guardY rfl rfl rfl (by assumption) (SV.eqlI rfl rfl ?_) (by decide))
    all_goals (refine WO.cons (SV.pickTV rfl (by assumption) (by constructor) ?_) (by decide))
    all_goals refine WO.cons (SV.moveV (by constructor) ?_) (by decide)
    all_goals (refine WO.guardY rfl rfl rfl (by assumption) (SV.fieldAddr rfl ?_) (by decide))
    all_goals (refine WO.guardY rfl rfl rfl (by assumption) (SV.loadM (by assumption) rfl (by assumption) (by rfl) ?_) (by decide))
    all_goals (refine WO.guardY rfl rfl rfl (by assumption) (SV.fieldAddr rfl ?_) (by decide))
    all_goals (refine WO.guardY rfl rfl rfl (by assumption) (SV.loadM (by assumption) rfl (by assumption) (by rfl) ?_) (by decide))
    all_goals (refine WO.guardY rfl rfl rfl (by assumption) (SV.eqlI rfl rfl ?_) (by decide))
    all_goals (refine WO.cons (SV.pickTV rfl (by assumption) (by constructor) ?_) (by decide))
    all_goals refine WO.cons (SV.moveV (by constructor) ?_) (by decide)
    all_goals (refine WO.guardN rfl rfl rfl (by assumption) ?_ (by decide))
    all_goals (refine WO.guardN rfl rfl rfl (by assumption) ?_ (by decide))
    all_goals (refine WO.guardN rfl rfl rfl (by assumption) ?_ (by decide))
    refine WO.guardN rfl rfl rfl (by assumption) ?_ (by decide)
    all_goals (refine WO.guardN rfl rfl rfl (by assumption) ?_ (by decide))
    all_goals (refine WO.guardN rfl rfl rfl (by assumption) ?_ (by decide))
    refine WO.guardN rfl rfl rfl (by assumption) ?_ (by decide)
    all_goals (refine WO.cons (SV.pickFV rfl (by assumption) (by constructor) ?_) (by decide))
    all_goals refine WO.cons (SV.assignV (by constructor) ?_) (by decide)
    all_goals refine WO.nil ?_
    refine WC.ret ?_
    refine fin_one (e := .ret) (v := .bool _) rfl trivial rfl (by omega) (hM0_1.sub hE2) ⟨?_, rfl⟩
    rw [decide_eq_false (by simp [e4])]
  have hd4 : decide (h1 = h2) = true := decide_eq_true e4
  refine WC.seq ?_
  refine WC.region ?_
  refine WO.cons (SV.fieldAddr rfl ?_) (by decide)
  refine WO.cons (SV.loadM (by assumption) rfl (by assumption) (by rfl) ?_) (by decide)
  refine WO.cons (SV.fieldAddr rfl ?_) (by decide)
  refine WO.cons (SV.loadM (by assumption) rfl (by assumption) (by rfl) ?_) (by decide)
  refine WO.cons (SV.eqlI rfl rfl ?_) (by decide)
  refine WO.cons (SV.moveV (by constructor) ?_) (by decide)
  refine WO.guardY rfl rfl rfl (by assumption) (SV.fieldAddr rfl ?_) (by decide)
  all_goals (refine WO.guardY rfl rfl rfl (by assumption) (SV.loadM (by assumption) rfl (by assumption) (by rfl) ?_) (by decide))
  all_goals (refine WO.guardY rfl rfl rfl (by assumption) (SV.fieldAddr rfl ?_) (by decide))
  all_goals (refine WO.guardY rfl rfl rfl (by assumption) (SV.loadM (by assumption) rfl (by assumption) (by rfl) ?_) (by decide))
  all_goals (refine WO.guardY rfl rfl rfl (by assumption) (SV.eqlI rfl rfl ?_) (by decide))
  all_goals (refine WO.cons (SV.pickTV rfl (by assumption) (by constructor) ?_) (by decide))
  all_goals refine WO.cons (SV.moveV (by constructor) ?_) (by decide)
  all_goals (refine WO.guardY rfl rfl rfl (by assumption) (SV.fieldAddr rfl ?_) (by decide))
  all_goals (refine WO.guardY rfl rfl rfl (by assumption) (SV.loadM (by assumption) rfl (by assumption) (by rfl) ?_) (by decide))
  all_goals (refine WO.guardY rfl rfl rfl (by assumption) (SV.fieldAddr rfl ?_) (by decide))
  all_goals (refine WO.guardY rfl rfl rfl (by assumption) (SV.loadM (by assumption) rfl (by assumption) (by rfl) ?_) (by decide))
  all_goals (refine WO.guardY rfl rfl rfl (by assumption) (SV.eqlI rfl rfl ?_) (by decide))
  all_goals (refine WO.cons (SV.pickTV rfl (by assumption) (by constructor) ?_) (by decide))
  all_goals refine WO.cons (SV.moveV (by constructor) ?_) (by decide)
  all_goals (refine WO.guardY rfl rfl rfl (by assumption) (SV.fieldAddr rfl ?_) (by decide))
  all_goals (refine WO.guardY rfl rfl rfl (by assumption) (SV.loadM (by assumption) rfl (by assumption) (by rfl) ?_) (by decide))
  all_goals (refine WO.guardY rfl rfl rfl (by assumption) (SV.fieldAddr rfl ?_) (by decide))
  all_goals (refine WO.guardY rfl rfl rfl (by assumption) (SV.loadM (by assumption) rfl (by assumption) (by rfl) ?_) (by decide))
  all_goals (refine WO.guardY rfl rfl rfl (by assumption) (SV.eqlI rfl rfl ?_) (by decide))
  all_goals (refine WO.cons (SV.pickTV rfl (by assumption) (by constructor) ?_) (by decide))
  all_goals refine WO.cons (SV.moveV (by constructor) ?_) (by decide)
  all_goals (refine WO.guardY rfl rfl rfl (by assumption) (SV.fieldAddr rfl ?_) (by decide))
  all_goals (refine WO.guardY rfl rfl rfl (by assumption) (SV.loadM (by assumption) rfl (by assumption) (by rfl) ?_) (by decide))
  all_goals (refine WO.guardY rfl rfl rfl (by assumption) ?_ (by decide))
  refine SV.convBS Try.underlying25 Try.underlying9 Try.underlying5 hM0_1 rfl (slO_ext hva fun μ o _ e => hE2 _ _ e) rfl hca ?_
  refine WO.guardY rfl rfl rfl (by assumption) (SV.fieldAddr rfl ?_) (by decide)
  all_goals (refine WO.guardY rfl rfl rfl (by assumption) (SV.loadM (by assumption) rfl (by assumption) (by rfl) ?_) (by decide))
  all_goals (refine WO.guardY rfl rfl rfl (by assumption) ?_ (by decide))
  refine SV.convBS Try.underlying25 Try.underlying9 Try.underlying5 hM0_1 rfl (slO_ext hvb fun μ o _ e => hE2 _ _ e) rfl hcb ?_
  refine WO.guardY rfl rfl rfl (by assumption) (SV.eqlStr rfl rfl ?_) (by decide)
  all_goals (refine WO.cons (SV.pickTV rfl (by assumption) (by constructor) ?_) (by decide))
  all_goals refine WO.cons (SV.assignV (by constructor) ?_) (by decide)
  all_goals refine WO.nil ?_
  refine WC.ret ?_
  refine fin_one (e := .ret) (v := .bool _) rfl trivial rfl (by omega) (hM0_1.sub hE2) ⟨?_, rfl⟩
  rw [beq_str hca hcb]
  simp [e1, e2, e3, e4]
end Go.Proofs.Ytmlplblhabdbpaa

namespace Go.Proofs.Ytmlplblhabdbpaa
open Go.Ab
variable {X : CallE} {ro : Nat}
set_option maxRecDepth 10000
set_option linter.unusedVariables false
set_option linter.unusedSimpArgs false

theorem checkM_ok {p : List (List Spt)} (hc : checkM p = 0) : totM p ≤ 16384 ∧ wideM p = false := by
  unfold checkM at hc
  by_cases h1 : 16384 < totM p
  · rw [if_pos h1] at hc; cases hc
  · rw [if_neg h1] at hc
    cases hw : wideM p with
    | true => rw [hw, if_pos rfl] at hc; cases hc
    | false => exact ⟨by omega, rfl⟩
theorem flat_len : ∀ p : List (List Spt), p.flatten.length = totM p
  | [] => rfl
  | c :: p => by rw [List.flatten_cons, List.length_append, flat_len p]; unfold totM; simp
theorem tot_take {p : List (List Spt)} {i : Nat} : totM (p.take i) ≤ totM p := by
  rw [← flat_len, ← flat_len]
  have := congrArg (fun q => (List.flatten q).length) (List.take_append_drop i p)
  simp only [List.flatten_append, List.length_append] at this
  omega
theorem tot_snoc {q : List (List Spt)} {c : List Spt} : totM (q ++ [c]) = totM q + c.length := by unfold totM; simp
theorem box_so {p : List (List Spt)} : (boxM p).so = decide (0 < (p.flatten.length : Int)) := by
  rw [box_flat, fold_so]
  cases p.flatten with
  | nil => rfl
  | cons s l => simp
set_option maxHeartbeats 4000000 in
/-- serifref21.Fill. -/
theorem fillD_sp {s : St} {H : Hp} {A : Option Addr} {cp : Nat} {p : List (List Spt)} (hX : OwnX X) (hM : Models ro s H) (hp : PolyH H A p) (hb : p.length ≤ 1000000000000) (hbig : totM p ≤ 1000000000000) :
    Sp X Try.prog ro 17 [.slice A p.length cp] s fun v H' => ∃ cv, v = .tuple #[.agg #[.int .i64 (fillM p).X, .int .i64 (fillM p).Y, .int .i64 (fillM p).W, .int .i64 (fillM p).H, cv], .int .i64 (fillM p).err] ∧
      SlO H' cv 1 (fillM p).cov.length ((fillM p).cov.map (.int .u8)) ∧ Ext H H' := by
  refine Sp.of_body (hX _ _ _ (by decide) (by decide) (by decide) (by decide)) Try.func17 rfl Try.ntmps17 (by simp) ?_
  refine WC.seq ?_
  refine WC.region ?_
  refine WO.cons (SV.allocM (by assumption) (fun a0_0 s0_0 hf0_0 hne0_0 hn0_0 hM0_0 => ?_)) (by decide)
  refine WO.cons (SV.assignV (by constructor) ?_) (by decide)
  refine WO.nil ?_
  replace hM0_0 : Models ro s0_0 (H.up a0_0 (.row 0 [.int .i64 0, .int .i64 0, .int .i64 0, .int .i64 0, .slice none 0 0])) := hM0_0
  have hE0 : Ext H (H.up a0_0 (.row 0 [.int .i64 0, .int .i64 0, .int .i64 0, .int .i64 0, .slice none 0 0])) := ext_up hne0_0
  have h40 : (H.up a0_0 (.row 0 [.int .i64 0, .int .i64 0, .int .i64 0, .int .i64 0, .slice none 0 0])) a0_0 = some (.row 0 [.int .i64 0, .int .i64 0, .int .i64 0, .int .i64 0, .slice none 0 0]) := Hp.up_same
  have hf4 : H a0_0 = none := hf0_0
  obtain ⟨H0, hH0⟩ : ∃ H0 : Hp, H0 = H.up a0_0 (.row 0 [.int .i64 0, .int .i64 0, .int .i64 0, .int .i64 0, .slice none 0 0]) := ⟨_, rfl⟩
  rw [← hH0] at hM0_0 hE0 h40
  refine WC.seq ?_
  refine WC.region ?_
  refine WO.cons (SV.moveV (by constructor) ?_) (by decide)
  refine WO.cons ?_ (by decide)
  refine SV.callM rfl rfl (checkD_sp hX hM0_0 (hp.ext hE0) (by omega) (by omega)) ?_
  rintro v s1 H1 hn1 hM1 ⟨rfl, rfl⟩
  refine WO.cons (SV.assignV (by constructor) ?_) (by decide)
  refine WO.nil ?_
  refine WC.seq (WC.seq ?_)
  refine WC.region ?_
  refine WO.cons (SV.moveV (by constructor) ?_) (by decide)
  refine WO.cons (SV.neqI rfl rfl ?_) (by decide)
  refine WO.nil ?_
  by_cases hc : checkM p = 0
  rotate_left
  · have hd : (decide (checkM p ≠ 0)) = true := decide_eq_true hc
    refine WC.condT rfl (by assumption) (WC.seq ?_)
    refine WC.region ?_
    refine WO.cons (SV.build rfl ?_) (by decide)
    refine WO.cons (SV.moveV (by constructor) ?_) (by decide)
    refine WO.cons0 ?_
    refine SV.storeMA hM1 rfl rfl rfl rfl h40 (by simp) (fun s3_2 hn3_2 hM3_2 => ?_)
    refine WO.cons (SV.assignV (by constructor) ?_) (by decide)
    refine WO.nil ?_
    refine WC.ret ?_
    change FinM Try.prog ro s.next Try.f17 _ Ex.ret _ [] _
    have hfm : fillM p = ⟨0, 0, 0, 0, [], checkM p⟩ := by unfold fillM; rw [if_pos hc]
    rw [hfm]
    refine fin_cellT (e := .ret) (es := 0) (vs := [.int .i64 0, .int .i64 0, .int .i64 0, .int .i64 0, .slice none 0 0]) rfl trivial rfl Hp.up_same rfl rfl (by omega) hM3_2 (hM3_2.sub (H' := H) fun ν o e => Hp.up_ne (fun h => by rw [h, hf4] at e; cases e) (hE0 ν o e)) ⟨.slice none 0 0, rfl, .inl ⟨rfl, rfl, rfl⟩, Ext.refl⟩
  have hd : (decide (checkM p ≠ 0)) = false := decide_eq_false (by simp [hc])
  obtain ⟨htot, hwide⟩ := checkM_ok hc
  refine WC.condF rfl (by assumption) (WC.skip (WC.seq ?_))
  refine WC.region ?_
  refine WO.cons (SV.buildSliceM (by assumption) rfl rfl (fun a4_0 s4_0 hf4_0 hne4_0 hn4_0 hM4_0 => ?_)) (by decide)
  refine WO.cons (SV.assignV (by constructor) ?_) (by decide)
  refine WO.nil ?_
  replace hM4_0 : Models ro s4_0 (H1.up a4_0 (.row 2 [])) := hM4_0
  have hE4 : Ext H1 (H1.up a4_0 (.row 2 [])) := ext_up hne4_0
  have hf4_0' : H1 a4_0 = none := hf4_0
  refine WC.seq (WC.seq ?_)
  refine WC.region ?_
  refine WO.cons (SV.moveV (by constructor) ?_) (by decide)
  refine WO.cons (SV.len rfl rfl ?_) (by decide)
  refine WO.cons (SV.moveV (by constructor) ?_) (by decide)
  refine WO.nil ?_
  refine WC.block ?_
  refine WC.loop (D := Nat × Value) (fun x => [(0, .slice A p.length cp), (2, .pointer (some ⟨a0_0, 0, none⟩)), (5, x.2), (20, .slice A p.length cp), (21, .int .i64 p.length), (22, .int .i64 x.1)])
    (fun x s1 => s.next ≤ s1.next ∧ ∃ H2, Models ro s1 H2 ∧ x.1 ≤ p.length ∧ Ext H1 H2 ∧ SlO H2 x.2 2 (p.take x.1).flatten.length ((p.take x.1).flatten.flatMap encS) ∧ ∀ μ, baseV x.2 = some μ → H1 μ = none) (fun x => p.length - x.1) (0, .slice (some ⟨a4_0, 0, none⟩) 0 0) ?_ ⟨by omega, _, hM4_0, Nat.zero_le _, hE4, .inr ⟨a4_0, 0, [], rfl, Hp.up_same, rfl, by simp, by simp⟩, fun μ e => by cases e; exact hf4_0'⟩ ?_
  · exact ⟨rfl, rfl, rfl, rfl, rfl, rfl, trivial⟩
  rintro ⟨i, vo⟩ g s2 ⟨hn2, H2, hM2, hi, hE2, hvo, hfo⟩
  dsimp only at hi hvo hfo ⊢
  refine WC.seq ?_
  refine WC.region ?_
  refine WO.cons (SV.lss rfl rfl ?_) (by decide)
  refine WO.nil ?_
  refine WC.seq ?_
  refine WC.condD rfl (fun hlt hltb => ?_) (fun hlt hltb => ?_)
  · obtain ⟨c, hcc, hdr⟩ := drop_cons (L := p) (i := i) (by omega)
    have hcl := len_le_tot (List.mem_of_getElem? hcc)
    obtain ⟨ν, o, B, k, rfl, hcell, hS⟩ := (hp.ext (hE0.trans hE2)) i c hcc
    refine WC.skip (WC.seq (WC.block (WC.seq ?_)))
    refine WC.region ?_
    refine WO.cons (SV.indexAddr rfl rfl (by omega) ?_) (by decide)
    refine WO.cons (SV.loadC (by assumption) rfl (by assumption) ?_) (by decide)
    refine WO.cons (SV.assignV (by constructor) ?_) (by decide)
    refine WO.nil ?_
    have hfl : (p.take i).flatten.length ≤ 16384 := by rw [flat_len]; exact Nat.le_trans tot_take htot
    refine WC.region ?_
    refine WO.cons (SV.move ?_) (by decide)
    refine WO.cons (SV.moveV (by constructor) ?_) (by decide)
    refine WO.cons ?_ (by decide)
    refine SV.appendM (sz := 2) (sz' := 2) (m := c.length) (xs := c.flatMap encS) rfl hM2 rfl rfl hvo (src_spot hS) rfl (by omega) (fun v8 s8 H8 hn8 hM8 hv8 hk8 hnew8 _ => ?_)
    refine WO.cons (SV.assign ?_) (by decide)
    refine WO.nil ?_
    refine WC.region ?_
    refine WO.cons (SV.add64 rfl rfl (by omega) ?_) (by decide)
    refine WO.cons (SV.moveV (by constructor) ?_) (by decide)
    refine WO.nil ?_
    have htk : p.take (i + 1) = p.take i ++ [c] := by rw [List.take_add_one, hcc]; rfl
    refine ⟨rfl, (i + 1, v8), ⟨rfl, rfl, rfl, rfl, rfl, by show some (Value.int .i64 ((i : Int) + 1)) = _; rfl, trivial⟩, ⟨by omega, H8, hM8, by dsimp only; omega, hE2.kept hk8 hfo, ?_, hnew8.none hE2 hfo⟩, by dsimp only; omega⟩
    dsimp only
    rw [htk, List.flatten_append, List.length_append, List.flatMap_append]
    simpa using hv8
  obtain rfl : i = p.length := by omega
  rw [List.take_length] at hvo
  refine WC.exit (WC.seq ?_)
  refine WC.region ?_
  refine WO.cons (SV.move ?_) (by decide)
  refine WO.cons ?_ (by decide)
  refine SV.callM rfl rfl (hull_sp hX hM2 hvo (by rw [flat_len]; omega)) ?_
  rintro v s3 H3 hn3 hM3 ⟨rfl, rfl⟩
  rw [← box_flat, ← box_so]
  refine WO.cons (SV.moveV (by constructor) ?_) (by decide)
  refine WO.cons (SV.extract rfl rfl ?_) (by decide)
  refine WO.cons (SV.extract rfl rfl ?_) (by decide)
  refine WO.cons (SV.allocM (by assumption) (fun a10_5 s10_5 hf10_5 hne10_5 hn10_5 hM10_5 => ?_)) (by decide)
  refine WO.cons0 ?_
  refine SV.storeMA hM10_5 rfl rfl rfl rfl Hp.up_same (by simp) (fun s10_6 hn10_6 hM10_6 => ?_)
  rw [Hp.up_up] at hM10_6
  refine WO.cons (SV.assignV (by constructor) ?_) (by decide)
  refine WO.nil ?_
  have hbb := box_bd hwide
  obtain ⟨⟨u1, u2⟩, ⟨u3, u4⟩, ⟨u5, u6⟩, u7, u8⟩ := hbb
  have hord := box_ord (p := p)
  obtain ⟨x0, hx0⟩ : ∃ x, x = (boxM p).x0 := ⟨_, rfl⟩
  obtain ⟨y0, hy0⟩ : ∃ x, x = (boxM p).y0 := ⟨_, rfl⟩
  obtain ⟨x1, hx1⟩ : ∃ x, x = (boxM p).x1 := ⟨_, rfl⟩
  obtain ⟨y1, hy1⟩ : ∃ x, x = (boxM p).y1 := ⟨_, rfl⟩
  rw [← hx0, ← hx1, ← hy0, ← hy1] at hord
  rw [← hx0] at u1 u2
  rw [← hy0] at u3 u4
  rw [← hx1] at u5 u6
  rw [← hy1] at u7 u8
  rw [← hx0, ← hy0, ← hx1, ← hy1] at hM10_6
  rw [← hx0, ← hy0, ← hx1, ← hy1]
  replace hM10_6 : Models ro s10_6 (H3.up a10_5 (.row 0 [.int .i64 x0, .int .i64 y0, .int .i64 x1, .int .i64 y1])) := hM10_6
  have hE7 : Ext H3 (H3.up a10_5 (.row 0 [.int .i64 x0, .int .i64 y0, .int .i64 x1, .int .i64 y1])) := ext_up hne10_5
  have h7 : (H3.up a10_5 (.row 0 [.int .i64 x0, .int .i64 y0, .int .i64 x1, .int .i64 y1])) a10_5 = some (.row 0 [.int .i64 x0, .int .i64 y0, .int .i64 x1, .int .i64 y1]) := Hp.up_same
  have hE07 := (hE0.trans hE2).trans hE7
  have h47 := hE7 _ _ (hE2 _ _ h40)
  obtain ⟨H7, hH7⟩ : ∃ H7 : Hp, H7 = H3.up a10_5 (.row 0 [.int .i64 x0, .int .i64 y0, .int .i64 x1, .int .i64 y1]) := ⟨_, rfl⟩
  rw [← hH7] at hM10_6 hE7 h7 hE07 h47
  clear hH7
  refine WC.seq (WC.seq ?_)
  refine WC.region ?_
  refine WO.cons (SV.moveV (by constructor) ?_) (by decide)
  refine WO.cons (SV.not rfl ?_) (by decide)
  refine WO.nil ?_
  cases hso : (boxM p).so with
  | false =>
    refine WC.condT rfl (by rfl) (WC.seq ?_)
    refine WC.region ?_
    refine WO.cons (SV.build rfl ?_) (by decide)
    refine WO.cons0 ?_
    refine SV.storeMA hM10_6 rfl rfl rfl rfl h47 (by simp) (fun s12_1 hn12_1 hM12_1 => ?_)
    refine WO.cons (SV.assignV (by constructor) ?_) (by decide)
    refine WO.nil ?_
    refine WC.ret ?_
    change FinM Try.prog ro s.next Try.f17 _ Ex.ret _ [] _
    have hfm : fillM p = ⟨0, 0, 0, 0, [], 0⟩ := by unfold fillM; rw [if_neg (fun h => h hc), if_pos hso]
    rw [hfm]
    refine fin_cellT (e := .ret) (es := 0) (vs := [.int .i64 0, .int .i64 0, .int .i64 0, .int .i64 0, .slice none 0 0]) rfl trivial rfl Hp.up_same rfl rfl (by omega) hM12_1 (hM12_1.sub (H' := H) fun ν o e => Hp.up_ne (fun h => by rw [h, hf4] at e; cases e) (hE07 ν o e)) ⟨.slice none 0 0, rfl, .inl ⟨rfl, rfl, rfl⟩, Ext.refl⟩
  | true =>
    obtain ⟨o1, o2⟩ := hord hso
    refine WC.condF rfl (by rfl) (WC.skip (WC.seq ?_))
    let Hk := H7
    have hMk : Models ro s10_6 Hk := hM10_6
    refine WC.drawM [2] Hk [0, 1, 2, 3, 4, 5, 6, 7, 8] (by kernel_rfl) (by kernel_rfl) (by kernel_rfl) ?_
    refine WM.act (by decide) (by kernel_rfl) (SV.fieldAddr rfl ?_) (by decide)
    refine WM.read (St1.load rfl (by assumption) (by rfl) (by exact sameV_int _ _)) (by assumption) ?_ (by decide)
    refine WM.actU (by kernel_rfl) (by assumption) ?_ (by decide)
    refine SV.callM rfl rfl (down_sp hX hM10_6 (by omega)) ?_
    rintro v s11 H11 hn11 hM11 ⟨rfl, rfl⟩
    refine ⟨hM11, ?_⟩
    refine WM.act (by decide) (by kernel_rfl) (SV.fieldAddr rfl ?_) (by decide)
    refine WM.read (St1.load rfl (by assumption) (by rfl) (by exact sameV_int _ _)) (by assumption) ?_ (by decide)
    refine WM.act (by decide) (by kernel_rfl) ?_ (by decide)
    refine SV.callM rfl rfl (down_sp hX hM11 (by omega)) ?_
    rintro v s12 H12 hn12 hM12 ⟨rfl, rfl⟩
    refine WM.act (by decide) (by kernel_rfl) (SV.build rfl ?_) (by decide)
    refine WM.act (by decide) (by kernel_rfl) (SV.allocM (by assumption) (fun a13_7 s13_7 hf13_7 hne13_7 hn13_7 hM13_7 => ?_)) (by decide)
    refine WM.act0 (by decide) (by kernel_rfl) ?_
    refine SV.storeMA hM13_7 rfl rfl rfl rfl Hp.up_same (by simp) (fun s13_8 hn13_8 hM13_8 => ?_)
    rw [Hp.up_up] at hM13_8
    refine WM.nil ?_
    replace hM13_8 : Models ro s13_8 (H12.up a13_7 (.row 0 [.int .i64 (x0 / 64), .int .i64 (y0 / 64), .int .i64 0, .int .i64 0, .slice none 0 0])) := hM13_8
    have hf9 : H12 a13_7 = none := hf13_7
    have hne9 : ∀ ν o, H12 ν = some o → ν ≠ a13_7 := hne13_7
    have hne7 : a10_5 ≠ a13_7 := hne9 _ _ h7
    obtain ⟨H9, hH9⟩ : ∃ H9 : Hp, H9 = H12.up a13_7 (.row 0 [.int .i64 (x0 / 64), .int .i64 (y0 / 64), .int .i64 0, .int .i64 0, .slice none 0 0]) := ⟨_, rfl⟩
    have h79 : H9 a10_5 = some (.row 0 [.int .i64 x0, .int .i64 y0, .int .i64 x1, .int .i64 y1]) := by rw [hH9]; exact Hp.up_ne hne7 h7
    have h99 : H9 a13_7 = some (.row 0 [.int .i64 (x0 / 64), .int .i64 (y0 / 64), .int .i64 0, .int .i64 0, .slice none 0 0]) := by rw [hH9]; exact Hp.up_same
    rw [← hH9] at hM13_8
    refine WC.seq ?_
    clear Hk hMk
    let Hk := H9
    have hMk : Models ro s13_8 Hk := hM13_8
    refine WC.drawM [2] Hk [0, 1, 2, 3, 4, 5, 6, 7, 8] (by kernel_rfl) (by kernel_rfl) (by kernel_rfl) ?_
    refine WM.act (by decide) (by kernel_rfl) (SV.fieldAddr rfl ?_) (by decide)
    refine WM.read (St1.load rfl (by assumption) (by rfl) (by exact sameV_int _ _)) (by assumption) ?_ (by decide)
    refine WM.actU (by kernel_rfl) (by assumption) ?_ (by decide)
    refine SV.callM rfl rfl (down_sp hX hM13_8 (by omega)) ?_
    rintro v s14 H14 hn14 hM14 ⟨rfl, rfl⟩
    refine ⟨hM14, ?_⟩
    refine WM.act (by decide) (by kernel_rfl) (SV.fieldAddr rfl ?_) (by decide)
    refine WM.read (St1.load rfl (by assumption) (by rfl) (by exact sameV_int _ _)) (by assumption) ?_ (by decide)
    refine WM.act (by decide) (by kernel_rfl) (SV.sub64 rfl rfl (by omega) ?_) (by decide)
    refine WM.act (by decide) (by kernel_rfl) (SV.add64 rfl rfl (by omega) ?_) (by decide)
    refine WM.act (by decide) (by kernel_rfl) (SV.fieldAddr rfl ?_) (by decide)
    refine WM.act0 (by decide) (by kernel_rfl) ?_
    refine SV.storeV hM14 rfl (by constructor) h99 (by simp) (fun s14_8 hn14_8 hM14_8 => ?_)
    refine WM.nil ?_
    rw [hH9, Hp.up_up] at hM14_8
    obtain ⟨W, hW⟩ : ∃ W : Int, W = x1 / 64 - x0 / 64 + 1 := ⟨_, rfl⟩
    obtain ⟨W2, hW2⟩ : ∃ W : Int, W = y1 / 64 - y0 / 64 + 1 := ⟨_, rfl⟩
    replace hM14_8 : Models ro s14_8 (H12.up a13_7 (.row 0 [.int .i64 (x0 / 64), .int .i64 (y0 / 64), .int .i64 (x1 / 64 - x0 / 64 + 1), .int .i64 0, .slice none 0 0])) := hM14_8
    rw [← hW] at hM14_8
    clear hMk Hk
    obtain ⟨H10, hH10⟩ : ∃ H9 : Hp, H9 = H12.up a13_7 (.row 0 [.int .i64 (x0 / 64), .int .i64 (y0 / 64), .int .i64 W, .int .i64 0, .slice none 0 0]) := ⟨_, rfl⟩
    have h710 : H10 a10_5 = some (.row 0 [.int .i64 x0, .int .i64 y0, .int .i64 x1, .int .i64 y1]) := by rw [hH10]; exact Hp.up_ne hne7 h7
    have h910 : H10 a13_7 = some (.row 0 [.int .i64 (x0 / 64), .int .i64 (y0 / 64), .int .i64 W, .int .i64 0, .slice none 0 0]) := by rw [hH10]; exact Hp.up_same
    rw [← hH10] at hM14_8
    refine WC.seq ?_
    let Hk := H10
    have hMk : Models ro s14_8 Hk := hM14_8
    refine WC.drawM [2] Hk [0, 1, 2, 3, 4, 5, 6, 7, 8] (by kernel_rfl) (by kernel_rfl) (by kernel_rfl) ?_
    refine WM.act (by decide) (by kernel_rfl) (SV.fieldAddr rfl ?_) (by decide)
    refine WM.read (St1.load rfl (by assumption) (by rfl) (by exact sameV_int _ _)) (by assumption) ?_ (by decide)
    refine WM.actU (by kernel_rfl) (by assumption) ?_ (by decide)
    refine SV.callM rfl rfl (down_sp hX hM14_8 (by omega)) ?_
    rintro v s15 H15 hn15 hM15 ⟨rfl, rfl⟩
    refine ⟨hM15, ?_⟩
    refine WM.act (by decide) (by kernel_rfl) (SV.fieldAddr rfl ?_) (by decide)
    refine WM.read (St1.load rfl (by assumption) (by rfl) (by exact sameV_int _ _)) (by assumption) ?_ (by decide)
    refine WM.act (by decide) (by kernel_rfl) (SV.sub64 rfl rfl (by omega) ?_) (by decide)
    refine WM.act (by decide) (by kernel_rfl) (SV.add64 rfl rfl (by omega) ?_) (by decide)
    refine WM.act (by decide) (by kernel_rfl) (SV.fieldAddr rfl ?_) (by decide)
    refine WM.act0 (by decide) (by kernel_rfl) ?_
    refine SV.storeV hM15 rfl (by constructor) h910 (by simp) (fun s15_8 hn15_8 hM15_8 => ?_)
    refine WM.nil ?_
    rw [hH10, Hp.up_up] at hM15_8
    replace hM15_8 : Models ro s15_8 (H12.up a13_7 (.row 0 [.int .i64 (x0 / 64), .int .i64 (y0 / 64), .int .i64 W, .int .i64 (y1 / 64 - y0 / 64 + 1), .slice none 0 0])) := hM15_8
    rw [← hW2] at hM15_8
    clear hMk Hk
    have hn16 : s.next ≤ s15_8.next := by omega
    obtain ⟨HR, hHR⟩ : ∃ H9 : Hp, H9 = H12.up a13_7 (.row 0 [.int .i64 (x0 / 64), .int .i64 (y0 / 64), .int .i64 W, .int .i64 W2, .slice none 0 0]) := ⟨_, rfl⟩
    have h9R : HR a13_7 = some (.row 0 [.int .i64 (x0 / 64), .int .i64 (y0 / 64), .int .i64 W, .int .i64 W2, .slice none 0 0]) := by rw [hHR]; exact Hp.up_same
    have hER : Ext H12 HR := by rw [hHR]; exact ext_up hne9
    rw [← hHR] at hM15_8
    have h4R := hER _ _ h47
    have hWn : (wM p : Int) = W := by unfold wM; rw [← hx0, ← hx1]; omega
    have hHn : (hM' p : Int) = W2 := by unfold hM'; rw [← hy0, ← hy1]; omega
    have hER0 := hE07.trans hER
    clear hHR hH10 hH9
    refine WC.seq (WC.seq ?_)
    refine WC.region ?_
    refine WO.cons (SV.fieldAddr rfl ?_) (by decide)
    refine WO.cons (SV.loadM (by assumption) rfl (by assumption) (by rfl) ?_) (by decide)
    refine WO.cons (SV.gtr rfl rfl ?_) (by decide)
    refine WO.cons (SV.moveV (by constructor) ?_) (by decide)
    refine WO.guardDF rfl rfl rfl (fun hg16_4 hh16_4 => SV.fieldAddr rfl ?_) (fun hg16_4 hh16_4 => ?_) (by decide)
    all_goals (first | refine WO.guardY rfl rfl rfl (by assumption) (SV.loadM (by assumption) rfl (by assumption) (by rfl) ?_) (by decide) | refine WO.guardN rfl rfl rfl (by assumption) ?_ (by decide))
    all_goals (first | refine WO.guardY rfl rfl rfl (by assumption) (SV.gtr rfl rfl ?_) (by decide) | refine WO.guardN rfl rfl rfl (by assumption) ?_ (by decide))
    all_goals (first | refine WO.cons (SV.pickTV rfl (by assumption) (by constructor) ?_) (by decide) | refine WO.cons (SV.pickFV rfl (by assumption) (by constructor) ?_) (by decide))
    all_goals refine WO.nil ?_
    rotate_left
    · refine WC.condT rfl (by rfl) (WC.seq ?_)
      refine WC.region ?_
      refine WO.cons (SV.build rfl ?_) (by decide)
      refine WO.cons0 ?_
      refine SV.storeMA hM15_8 rfl rfl rfl rfl h4R (by simp) (fun s17_1 hn17_1 hM17_1 => ?_)
      refine WO.cons (SV.assignV (by constructor) ?_) (by decide)
      refine WO.nil ?_
      refine WC.ret ?_
      change FinM Try.prog ro s.next Try.f17 _ Ex.ret _ [] _
      have hfm : fillM p = ⟨0, 0, 0, 0, [], 213⟩ := by unfold fillM; rw [if_neg (fun h => h hc), if_neg (by rw [hso]; decide), if_pos (by omega)]
      rw [hfm]
      refine fin_cellT (e := .ret) (es := 0) (vs := [.int .i64 0, .int .i64 0, .int .i64 0, .int .i64 0, .slice none 0 0]) rfl trivial rfl Hp.up_same rfl rfl (by omega) hM17_1 (hM17_1.sub (H' := H) fun ν o e => Hp.up_ne (fun h => by rw [h, hf4] at e; cases e) (hER0 ν o e)) ⟨.slice none 0 0, rfl, .inl ⟨rfl, rfl, rfl⟩, Ext.refl⟩
    by_cases hg2 : 512 < W2
    · have hd2 : decide (512 < W2) = true := decide_eq_true hg2
      refine WC.condT rfl (by assumption) (WC.seq ?_)
      refine WC.region ?_
      refine WO.cons (SV.build rfl ?_) (by decide)
      refine WO.cons0 ?_
      refine SV.storeMA hM15_8 rfl rfl rfl rfl h4R (by simp) (fun s17_1 hn17_1 hM17_1 => ?_)
      refine WO.cons (SV.assignV (by constructor) ?_) (by decide)
      refine WO.nil ?_
      refine WC.ret ?_
      change FinM Try.prog ro s.next Try.f17 _ Ex.ret _ [] _
      have hfm : fillM p = ⟨0, 0, 0, 0, [], 213⟩ := by unfold fillM; rw [if_neg (fun h => h hc), if_neg (by rw [hso]; decide), if_pos (by omega)]
      rw [hfm]
      refine fin_cellT (e := .ret) (es := 0) (vs := [.int .i64 0, .int .i64 0, .int .i64 0, .int .i64 0, .slice none 0 0]) rfl trivial rfl Hp.up_same rfl rfl (by omega) hM17_1 (hM17_1.sub (H' := H) fun ν o e => Hp.up_ne (fun h => by rw [h, hf4] at e; cases e) (hER0 ν o e)) ⟨.slice none 0 0, rfl, .inl ⟨rfl, rfl, rfl⟩, Ext.refl⟩
    have hd2 : decide (512 < W2) = false := decide_eq_false hg2
    refine WC.condF rfl (by assumption) (WC.skip (WC.seq (WC.seq ?_)))
    obtain ⟨w, rfl⟩ : ∃ w : Nat, W = w := ⟨W.toNat, by omega⟩
    obtain ⟨h, rfl⟩ : ∃ w : Nat, W2 = w := ⟨W2.toNat, by omega⟩
    have hwm : wM p = w := by omega
    have hhm : hM' p = h := by omega
    refine WC.region ?_
    refine WO.cons (SV.assignV (by constructor) ?_) (by decide)
    refine WO.nil ?_
    have hwh : w * h ≤ 262144 := mul_le512 ⟨by omega, by omega⟩
    obtain ⟨K, hK⟩ : ∃ K : List Int, K = (List.range (w * h)).map fun k => alphaM (cellsD p (x0 / 64 + (k % w : Nat)) (y0 / 64 + (k / w : Nat))) := ⟨_, rfl⟩
    have hKl : K.length = w * h := by rw [hK]; simp
    have hcv : coverM p = K := by
      unfold coverM
      rw [hwm, hhm, hK, ← hx0, ← hy0]
      exact List.map_congr_left fun k _ => by rw [cells_eq]
    have hKat : ∀ x y : Nat, x < w → y < h → K[y * w + x]? = some (alphaM (cellsD p (x0 / 64 + x) (y0 / 64 + y))) ∧ y * w + x < w * h := fun x y hx hy => by
      have h1 := Nat.mul_le_mul_right w (show y + 1 ≤ h from hy)
      rw [Nat.succ_mul, Nat.mul_comm h w] at h1
      have h2 : y * w + x < w * h := by omega
      refine ⟨?_, h2⟩
      rw [hK, List.getElem?_map, List.getElem?_range h2]
      simp only [Option.map_some]
      rw [Nat.mul_comm y w, Nat.mul_add_mod, Nat.mod_eq_of_lt hx, Nat.mul_add_div (by omega), Nat.div_eq_of_lt hx, Nat.add_zero]
    have hHc4 := hER _ _ h47
    refine WC.block ?_
    refine WC.loop (D := Nat × Value) (fun x => [(0, .slice A p.length cp), (2, .pointer (some ⟨a0_0, 0, none⟩)), (10, .pointer (some ⟨a13_7, 0, none⟩)), (11, .int .i64 x.1)])
      (fun x s1 => s.next ≤ s1.next ∧ ∃ H1, Models ro s1 H1 ∧ x.1 ≤ h ∧ Ext H12 H1 ∧ H1 a13_7 = some (.row 0 [.int .i64 (x0 / 64), .int .i64 (y0 / 64), .int .i64 w, .int .i64 h, x.2]) ∧ SlO H1 x.2 1 (x.1 * w) ((K.take (x.1 * w)).map (.int .u8)) ∧ ∀ μ, baseV x.2 = some μ → H12 μ = none ∧ μ ≠ a13_7) (fun x => h - x.1) (0, .slice none 0 0) ?_ ⟨by omega, _, hM15_8, Nat.zero_le _, hER, h9R, ?_, ?_⟩ ?_
    · exact ⟨rfl, rfl, rfl, rfl, trivial⟩
    · dsimp only; rw [Nat.zero_mul]; exact .inl ⟨rfl, rfl, rfl⟩
    · intro μ e; cases e
    rintro ⟨y, v⟩ g s12 ⟨hn12, H13, hM13, hy, hEc13, h139, hsl, hbv⟩
    dsimp only at hy hsl hbv h139 ⊢
    refine WC.seq (WC.seq ?_)
    refine WC.region ?_
    refine WO.cons (SV.moveV (by constructor) ?_) (by decide)
    refine WO.cons (SV.fieldAddr rfl ?_) (by decide)
    refine WO.cons (SV.loadM (by assumption) rfl (by assumption) (by rfl) ?_) (by decide)
    refine WO.cons (SV.lss rfl rfl ?_) (by decide)
    refine WO.nil ?_
    refine WC.condD rfl (fun hlt hltb => ?_) (fun hlt hltb => ?_)
    · refine WC.skip (WC.seq (WC.block (WC.seq ?_)))
      refine WC.region ?_
      refine WO.cons (SV.assignV (by constructor) ?_) (by decide)
      refine WO.nil ?_
      refine WC.block ?_
      refine WC.loop (D := Nat × Value) (fun x => [(0, .slice A p.length cp), (2, .pointer (some ⟨a0_0, 0, none⟩)), (10, .pointer (some ⟨a13_7, 0, none⟩)), (11, .int .i64 y), (12, .int .i64 x.1)])
        (fun x s1 => s.next ≤ s1.next ∧ ∃ H1, Models ro s1 H1 ∧ x.1 ≤ w ∧ Ext H12 H1 ∧ H1 a13_7 = some (.row 0 [.int .i64 (x0 / 64), .int .i64 (y0 / 64), .int .i64 w, .int .i64 h, x.2]) ∧ SlO H1 x.2 1 (y * w + x.1) ((K.take (y * w + x.1)).map (.int .u8)) ∧ ∀ μ, baseV x.2 = some μ → H12 μ = none ∧ μ ≠ a13_7) (fun x => w - x.1) (0, v) ?_ ⟨by omega, _, hM13, Nat.zero_le _, hEc13, h139, hsl, hbv⟩ ?_
      · exact ⟨rfl, rfl, rfl, rfl, rfl, trivial⟩
      rintro ⟨x, v2⟩ g s20 ⟨hn20, H20, hM20, hx, hEc20, h209, hsl2, hbv2⟩
      dsimp only at hx hsl2 hbv2 h209 ⊢
      refine WC.seq (WC.seq ?_)
      refine WC.region ?_
      refine WO.cons (SV.moveV (by constructor) ?_) (by decide)
      refine WO.cons (SV.fieldAddr rfl ?_) (by decide)
      refine WO.cons (SV.loadM (by assumption) rfl (by assumption) (by rfl) ?_) (by decide)
      refine WO.cons (SV.lss rfl rfl ?_) (by decide)
      refine WO.nil ?_
      refine WC.condD rfl (fun hlt2 hlt2b => ?_) (fun hlt2 hlt2b => ?_)
      · obtain ⟨hKv, hKi⟩ := hKat x y (by omega) (by omega)
        have hsv : sameV 4 v2 v2 = true := by
          rcases hsl2 with ⟨rfl, _, _⟩ | ⟨ν, c, ws, rfl, _⟩
          · rfl
          · exact sameV_slc _ _ _ _
        refine WC.skip (WC.seq (WC.block ?_))
        let Hk := H20
        have hMk : Models ro s20 Hk := hM20
        refine WC.drawM [11, 12] Hk [0, 1, 2, 3, 4, 5, 6, 7, 8, 9, 10, 11, 12, 13, 14, 15, 16] (by kernel_rfl) (by kernel_rfl) (by kernel_rfl) ?_
        refine WM.act (by decide) (by kernel_rfl) (SV.fieldAddr rfl ?_) (by decide)
        refine WM.read (St1.load rfl (by assumption) (by rfl) (by assumption)) (by assumption) ?_ (by decide)
        refine WM.act (by decide) (by kernel_rfl) (SV.moveV (by constructor) ?_) (by decide)
        refine WM.act (by decide) (by kernel_rfl) (SV.fieldAddr rfl ?_) (by decide)
        refine WM.read (St1.load rfl (by assumption) (by rfl) (by exact sameV_int _ _)) (by assumption) ?_ (by decide)
        refine WM.act (by decide) (by kernel_rfl) (SV.moveV (by constructor) ?_) (by decide)
        refine WM.act (by decide) (by kernel_rfl) (SV.add64 rfl rfl (by omega) ?_) (by decide)
        refine WM.act (by decide) (by kernel_rfl) (SV.fieldAddr rfl ?_) (by decide)
        refine WM.read (St1.load rfl (by assumption) (by rfl) (by exact sameV_int _ _)) (by assumption) ?_ (by decide)
        refine WM.act (by decide) (by kernel_rfl) (SV.moveV (by constructor) ?_) (by decide)
        refine WM.act (by decide) (by kernel_rfl) (SV.add64 rfl rfl (by omega) ?_) (by decide)
        refine WM.actU (by kernel_rfl) (by assumption) ?_ (by decide)
        refine SV.callM rfl rfl (cellsD_sp hX hM20 ((hp.ext hE07).ext hEc20) hb (by omega) hwide (by omega) (by omega)) ?_
        rintro v21 s21 H21 hn21 hM21 ⟨rfl, hE21⟩
        refine ⟨hM21.sub hE21, ?_⟩
        have hMk21 : Models ro s21 Hk := hM21.sub hE21
        refine WM.actU (by kernel_rfl) (by assumption) ?_ (by decide)
        refine SV.callM rfl rfl (alphaD_sp hX hM21) ?_
        rintro v22 s22 H22 hn22 hM22 ⟨rfl, rfl⟩
        refine ⟨hM22.sub hE21, ?_⟩
        have h219 := hE21 _ _ h209
        have hEc21 := hEc20.trans hE21
        refine WM.act (by decide) (by kernel_rfl) (SV.buildSliceM (by assumption) rfl rfl (fun a24_13 s24_13 hf24_13 hne24_13 hn24_13 hM24_13 => ?_)) (by decide)
        refine WM.act (by decide) (by kernel_rfl) ?_ (by decide)
        obtain ⟨z, hz⟩ : ∃ z, z = alphaM (cellsD p (x0 / 64 + x) (y0 / 64 + y)) := ⟨_, rfl⟩
        rw [← hz] at hKv hM24_13
        rw [← hz]
        replace hM24_13 : Models ro s24_13 (H22.up a24_13 (.row 1 [.int .u8 z])) := hM24_13
        have hE24 : Ext H22 (H22.up a24_13 (.row 1 [.int .u8 z])) := ext_up hne24_13
        have hv7 : baseV v2 ≠ some a13_7 := fun e => (hbv2 _ e).2 rfl
        refine SV.appendM (sz := 1) (sz' := 1) (n := y * w + x) (m := 1) (vs := (K.take (y * w + x)).map (.int .u8)) (xs := [.int .u8 z]) rfl hM24_13 rfl rfl (slO_ext hsl2 fun μ o _ e => hE24 _ _ (hE21 μ o e)) (Src.row Hp.up_same rfl rfl (fun i v hv => by rw [Nat.zero_add]; exact hv)) rfl (by omega) (fun v25 s25 H25 hn25 hM25 hv25 hk25 hnew25 _ => ?_)
        have h259 := hk25 _ _ (hE24 _ _ h219) hv7
        have hEc25 : Ext H12 H25 := (hEc21.trans hE24).kept hk25 fun μ e => (hbv2 μ e).1
        have hbv25 : ∀ μ, baseV v25 = some μ → H12 μ = none ∧ μ ≠ a13_7 := fun μ e => by
          rcases hnew25 _ e with h2 | h2
          · exact hbv2 _ h2
          · refine ⟨?_, fun h => by rw [h, hE24 _ _ h219] at h2; cases h2⟩
            cases e2 : H12 μ with
            | none => rfl
            | some o => rw [hE24 _ _ (hEc21 _ _ e2)] at h2; cases h2
        have hcv25 : cellsV v25 = some [v25] ∧ oneC v25 = true := by
          rcases hv25 with ⟨rfl, _, _⟩ | ⟨ν, c, ws, rfl, _⟩ <;> exact ⟨rfl, rfl⟩
        refine WM.act (by decide) (by kernel_rfl) (SV.fieldAddr rfl ?_) (by decide)
        refine WM.act0 (by decide) (by kernel_rfl) ?_
        refine SV.storeM hM25 rfl hcv25.1 hcv25.2 h259 (by simp) (fun s26 hn26 hM26 => ?_)
        replace hM26 : Models ro s26 (H25.up a13_7 (.row 0 [.int .i64 (x0 / 64), .int .i64 (y0 / 64), .int .i64 w, .int .i64 h, v25])) := hM26
        refine WM.nil ?_
        refine WC.region ?_
        refine WO.cons (SV.moveV (by constructor) ?_) (by decide)
        refine WO.cons (SV.add64 rfl rfl (by omega) ?_) (by decide)
        refine WO.cons (SV.assignV (by constructor) ?_) (by decide)
        refine WO.nil ?_
        refine ⟨rfl, (x + 1, v25), ⟨rfl, rfl, rfl, rfl, by show some (Value.int .i64 ((x : Int) + 1)) = _; rfl, trivial⟩, ⟨by omega, _, hM26, by dsimp only; omega, ?_, Hp.up_same, ?_, hbv25⟩, by dsimp only; omega⟩
        · exact hEc25.up fun ν o e h => by rw [h, hf9] at e; cases e
        · dsimp only
          rw [← Nat.add_assoc, List.take_add_one, hKv]
          simp only [Option.toList_some, List.map_append, List.map_cons, List.map_nil]
          exact slO_ext hv25 fun μ o e h => Hp.up_ne (hbv25 _ e).2 h
      · obtain rfl : x = w := by omega
        refine WC.exit ?_
        refine WC.region ?_
        refine WO.cons (SV.moveV (by constructor) ?_) (by decide)
        refine WO.cons (SV.add64 rfl rfl (by omega) ?_) (by decide)
        refine WO.cons (SV.assignV (by constructor) ?_) (by decide)
        refine WO.nil ?_
        rw [← Nat.succ_mul] at hsl2
        exact ⟨rfl, (y + 1, v2), ⟨rfl, rfl, rfl, by show some (Value.int .i64 ((y : Int) + 1)) = _; rfl, trivial⟩, ⟨by omega, _, hM20, by dsimp only; omega, hEc20, h209, hsl2, hbv2⟩, by dsimp only; omega⟩
    · obtain rfl : y = h := by omega
      rw [Nat.mul_comm, List.take_of_length_le (by omega)] at hsl
      obtain ⟨B9, n9, c9, rfl⟩ : ∃ A n c, v = .slice A n c := by
        rcases hsl with ⟨rfl, _, _⟩ | ⟨ν, c, ws, rfl, _⟩ <;> exact ⟨_, _, _, rfl⟩
      refine WC.exit (WC.seq ?_)
      refine WC.region ?_
      refine WO.cons ?_ (by decide)
      refine SV.loadMA (l := [.int .i64 (x0 / 64), .int .i64 (y0 / 64), .int .i64 w, .int .i64 y, .slice B9 n9 c9]) hM13 rfl h139 rfl (fun i v hv => by rw [Nat.zero_add]; exact hv) ?_
      have h124 := hEc13 _ _ h47
      refine WO.cons0 ?_
      refine SV.storeMA hM13 rfl rfl rfl rfl h124 (by simp) (fun s25_1 hn25_1 hM25_1 => ?_)
      refine WO.cons (SV.assignV (by constructor) ?_) (by decide)
      refine WO.nil ?_
      refine WC.ret ?_
      change FinM Try.prog ro s.next Try.f17 _ Ex.ret _ [] _
      have hfm : fillM p = ⟨x0 / 64, y0 / 64, w, y, coverM p, 0⟩ := by unfold fillM; rw [if_neg (fun h => h hc), if_neg (by rw [hso]; decide), if_neg (by omega), ← hx0, ← hy0, hwm, hhm]
      rw [hfm, hcv]
      dsimp only
      have hb4 : baseV (Value.slice B9 n9 c9) ≠ some a0_0 := fun e => by have := (hbv _ e).1; rw [h47] at this; cases this
      refine fin_cellT (e := .ret) (es := 0) (vs := [.int .i64 (x0 / 64), .int .i64 (y0 / 64), .int .i64 w, .int .i64 y, .slice B9 n9 c9]) rfl trivial rfl Hp.up_same rfl rfl (by omega) hM25_1 (hM25_1.sub (H' := fun μ => if μ = a0_0 then none else H13 μ) fun ν o e => ?_) ⟨.slice B9 n9 c9, rfl, ?_, fun ν o e => ?_⟩
      · by_cases hb : ν = a0_0
        · simp only [hb, if_true] at e; cases e
        · simp only [hb, if_false] at e; exact Hp.up_ne hb e
      · rw [hKl]
        exact slO_ext hsl fun μ o e h => by
          have : μ ≠ a0_0 := fun h => hb4 (by rw [e, h])
          simp only [this, if_false]; exact h
      · have : ν ≠ a0_0 := fun h => by rw [h, hf4] at e; cases e
        simp only [this, if_false]; exact hEc13 _ _ (hE07 _ _ e)
end Go.Proofs.Ytmlplblhabdbpaa

namespace Go.Proofs.Ytmlplblhabdbpaa
open Go.Ab
variable {X : CallE} {ro : Nat}
set_option maxRecDepth 10000
set_option linter.unusedVariables false
set_option linter.unusedSimpArgs false

theorem spot_eq1 {s : St} (m n m' n' : Int) : eqV Try.prog ro s 100 45 (.agg #[.int .i64 m, .int .i64 n]) (.agg #[.int .i64 m', .int .i64 n']) = (match (some (eqI m m') : Option Bool) with | some true => (match (some (eqI n n') : Option Bool) with | some true => some true | some false => some false | none => none) | some false => some false | none => none) := by
  kernel_rfl
theorem spot_eq {s : St} (m n : Int) : eqV Try.prog ro s 100 45 (.agg #[.int .i64 m, .int .i64 n]) (.agg #[.int .i64 m, .int .i64 n]) = some true := by
  rw [spot_eq1, eqI_self, eqI_self]
theorem polyH_at {H : Hp} {A : Option Addr} {p : List (List Spt)} (h : PolyH H A p) {i : Nat} {c : List Spt} (hc : p[i]? = some c) : ∃ ν o B k, A = some ⟨ν, o, none⟩ ∧ cellH H ν (o + i * 1) = some (.slice B c.length k) ∧ SpotH H B c := h i c hc
set_option maxHeartbeats 1000000 in
/-- serifref06.SameSpots of polygons and their copy. -/
theorem sameSpots_sp {s : St} {H : Hp} {A A' : Option Addr} {cp cp' : Nat} {p : List (List Spt)} (hX : OwnX X) (hM : Models ro s H) (hp : PolyH H A p) (hp' : PolyH H A' p) (hb : p.length ≤ 1000000000000) (hbig : totM p ≤ 1000000000000) :
    Sp X Try.prog ro 12 [.slice A p.length cp, .slice A' p.length cp'] s fun v H' => v = .bool true ∧ H' = H := by
  refine Sp.of_body (hX _ _ _ (by decide) (by decide) (by decide) (by decide)) Try.func12 rfl Try.ntmps12 (by simp) ?_
  refine WC.seq ?_
  refine WC.region ?_
  refine WO.cons (SV.assignV (by constructor) ?_) (by decide)
  refine WO.nil ?_
  have hd0 : decide ((p.length : Int) ≠ (p.length : Int)) = false := decide_eq_false (by simp)
  refine WC.seq (WC.seq ?_)
  refine WC.region ?_
  refine WO.cons (SV.moveV (by constructor) ?_) (by decide)
  refine WO.cons (SV.len rfl rfl ?_) (by decide)
  refine WO.cons (SV.moveV (by constructor) ?_) (by decide)
  refine WO.cons (SV.len rfl rfl ?_) (by decide)
  refine WO.cons (SV.neqI rfl rfl ?_) (by decide)
  refine WO.nil ?_
  refine WC.condF rfl (by assumption) (WC.skip (WC.seq (WC.seq ?_)))
  refine WC.region ?_
  refine WO.cons (SV.moveV (by constructor) ?_) (by decide)
  refine WO.cons (SV.len rfl rfl ?_) (by decide)
  refine WO.cons (SV.moveV (by constructor) ?_) (by decide)
  refine WO.nil ?_
  refine WC.block ?_
  refine WC.loop (D := Nat) (fun i => [(0, .slice A p.length cp), (1, .slice A' p.length cp'), (12, .slice A p.length cp), (13, .int .i64 p.length), (14, .int .i64 i)])
    (fun i s1 => s.next ≤ s1.next ∧ Models ro s1 H ∧ i ≤ p.length) (fun i => p.length - i) 0 ?_ ⟨by omega, hM, Nat.zero_le _⟩ ?_
  · exact ⟨rfl, rfl, rfl, rfl, rfl, trivial⟩
  rintro i g s1 ⟨hn1, hM1, hi⟩
  refine WC.seq ?_
  refine WC.region ?_
  refine WO.cons (SV.lss rfl rfl ?_) (by decide)
  refine WO.nil ?_
  refine WC.seq ?_
  refine WC.condD rfl (fun hlt hltb => ?_) (fun hlt hltb => ?_)
  · obtain ⟨c, hc, hdr⟩ := drop_cons (L := p) (i := i) (by omega)
    have hcl := len_le_tot (List.mem_of_getElem? hc)
    obtain ⟨ν, o, B, k, rfl, hcell, hS⟩ := hp i c hc
    obtain ⟨ν', o', B', k', rfl, hcell', hS'⟩ := hp' i c hc
    have hd1 : decide ((c.length : Int) ≠ (c.length : Int)) = false := decide_eq_false (by simp)
    refine WC.skip (WC.seq (WC.block (WC.seq ?_)))
    refine WC.region ?_
    refine WO.cons (SV.moveV (by constructor) ?_) (by decide)
    refine WO.cons (SV.assignV (by constructor) ?_) (by decide)
    refine WO.nil ?_
    refine WC.seq (WC.seq ?_)
    refine WC.draw [0, 1, 2, 3, 4, 5, 6, 7, 8, 9, 10] (by kernel_rfl) (by kernel_rfl) (by kernel_rfl) ?_
    refine WD.cons (SV.moveV (by constructor) ?_) (by decide)
    refine WD.cons (SV.moveV (by constructor) ?_) (by decide)
    refine WD.cons (SV.indexAddr rfl rfl (by omega) ?_) (by decide)
    refine WD.cons (SV.loadC (by assumption) rfl (by assumption) ?_) (by decide)
    refine WD.cons (SV.len rfl rfl ?_) (by decide)
    refine WD.cons (SV.moveV (by constructor) ?_) (by decide)
    refine WD.cons (SV.moveV (by constructor) ?_) (by decide)
    refine WD.cons (SV.indexAddr rfl rfl (by omega) ?_) (by decide)
    refine WD.cons (SV.loadC (by assumption) rfl (by assumption) ?_) (by decide)
    refine WD.cons (SV.len rfl rfl ?_) (by decide)
    refine WD.cons (SV.neqI rfl rfl ?_) (by decide)
    refine WD.nil ?_
    refine WC.condF rfl (by assumption) (WC.skip (WC.seq ?_))
    refine WC.region ?_
    refine WO.cons (SV.moveV (by constructor) ?_) (by decide)
    refine WO.cons (SV.moveV (by constructor) ?_) (by decide)
    refine WO.cons (SV.indexAddr rfl rfl (by omega) ?_) (by decide)
    refine WO.cons (SV.loadC (by assumption) rfl (by assumption) ?_) (by decide)
    refine WO.cons (SV.len rfl rfl ?_) (by decide)
    refine WO.cons (SV.moveV (by constructor) ?_) (by decide)
    refine WO.nil ?_
    refine WC.block ?_
    refine WC.loop (D := Nat) (fun j => [(0, .slice (some ⟨ν, o, none⟩) p.length cp), (1, .slice (some ⟨ν', o', none⟩) p.length cp'), (5, .int .i64 i), (12, .slice (some ⟨ν, o, none⟩) p.length cp), (13, .int .i64 p.length), (14, .int .i64 i), (32, .int .i64 c.length), (33, .int .i64 j)])
      (fun j s2 => s.next ≤ s2.next ∧ Models ro s2 H ∧ j ≤ c.length) (fun j => c.length - j) 0 ?_ ⟨by omega, hM1, Nat.zero_le _⟩ ?_
    · exact ⟨rfl, rfl, rfl, rfl, rfl, rfl, rfl, rfl, trivial⟩
    rintro j g s2 ⟨hn2, hM2, hj⟩
    refine WC.seq ?_
    refine WC.region ?_
    refine WO.cons (SV.lss rfl rfl ?_) (by decide)
    refine WO.nil ?_
    refine WC.seq ?_
    refine WC.condD rfl (fun hlt2 hlt2b => ?_) (fun hlt2 hlt2b => ?_)
    · obtain ⟨q, hq, hdr2⟩ := drop_cons (L := c) (i := j) (by omega)
      obtain ⟨μ, o2, rfl, hq1, hq2⟩ := hS.2 j q hq
      obtain ⟨μ', o2', rfl, hq1', hq2'⟩ := hS'.2 j q hq
      refine WC.skip (WC.seq (WC.block (WC.seq ?_)))
      refine WC.region ?_
      refine WO.cons (SV.moveV (by constructor) ?_) (by decide)
      refine WO.cons (SV.assignV (by constructor) ?_) (by decide)
      refine WO.nil ?_
      refine WC.seq ?_
      refine WC.draw [0, 1, 2, 3, 4, 5, 6, 7, 8, 9, 10, 11, 12, 13, 14] (by kernel_rfl) (by kernel_rfl) (by kernel_rfl) ?_
      refine WD.cons (SV.moveV (by constructor) ?_) (by decide)
      refine WD.cons (SV.moveV (by constructor) ?_) (by decide)
      refine WD.cons (SV.indexAddr rfl rfl (by omega) ?_) (by decide)
      refine WD.cons (SV.loadC (by assumption) rfl (by assumption) ?_) (by decide)
      refine WD.cons (SV.moveV (by constructor) ?_) (by decide)
      refine WD.cons (SV.indexAddr rfl rfl (by omega) ?_) (by decide)
      refine WD.cons ?_ (by decide)
      refine SV.loadCA (l := [.int .i64 q.1, .int .i64 q.2]) hM2 rfl rfl (fun i v e => ?_) ?_
      · match i, e with
        | 0, e => cases e; exact hq1
        | 1, e => cases e; exact hq2
      refine WD.cons (SV.moveV (by constructor) ?_) (by decide)
      refine WD.cons (SV.moveV (by constructor) ?_) (by decide)
      refine WD.cons (SV.indexAddr rfl rfl (by omega) ?_) (by decide)
      refine WD.cons (SV.loadC (by assumption) rfl (by assumption) ?_) (by decide)
      refine WD.cons (SV.moveV (by constructor) ?_) (by decide)
      refine WD.cons (SV.indexAddr rfl rfl (by omega) ?_) (by decide)
      refine WD.cons ?_ (by decide)
      refine SV.loadCA (l := [.int .i64 q.1, .int .i64 q.2]) hM2 rfl rfl (fun i v e => ?_) ?_
      · match i, e with
        | 0, e => cases e; exact hq1'
        | 1, e => cases e; exact hq2'
      refine WD.cons ?_ (by decide)
      refine SV.neqV (a := .agg #[.int .i64 q.1, .int .i64 q.2]) (b := .agg #[.int .i64 q.1, .int .i64 q.2]) rfl rfl (by kernel_rfl) (spot_eq _ _) ?_
      refine WD.nil ?_
      refine WC.condF rfl (by rfl) (WC.skip ?_)
      refine WC.region ?_
      refine WO.cons (SV.add64 rfl rfl (by omega) ?_) (by decide)
      refine WO.cons (SV.moveV (by constructor) ?_) (by decide)
      refine WO.nil ?_
      exact ⟨rfl, j + 1, ⟨rfl, rfl, rfl, rfl, rfl, rfl, rfl, by show some (Value.int .i64 ((j : Int) + 1)) = _; rfl, trivial⟩, ⟨by omega, hM2, by omega⟩, by omega⟩
    · refine WC.exit ?_
      refine WC.region ?_
      refine WO.cons (SV.add64 rfl rfl (by omega) ?_) (by decide)
      refine WO.cons (SV.moveV (by constructor) ?_) (by decide)
      refine WO.nil ?_
      exact ⟨rfl, i + 1, ⟨rfl, rfl, rfl, rfl, by show some (Value.int .i64 ((i : Int) + 1)) = _; rfl, trivial⟩, ⟨by omega, hM2, by omega⟩, by omega⟩
  · refine WC.exit (WC.seq ?_)
    refine WC.region ?_
    refine WO.cons (SV.assignV (by constructor) ?_) (by decide)
    refine WO.nil ?_
    refine WC.ret ?_
    exact fin_one (e := .ret) (v := .bool _) rfl trivial rfl (by omega) hM1 ⟨rfl, rfl⟩
end Go.Proofs.Ytmlplblhabdbpaa

namespace Go.Proofs.Ytmlplblhabdbpaa
open Go.Ab
variable {X : CallE} {ro : Nat}
set_option maxRecDepth 10000
set_option linter.unusedVariables false
set_option linter.unusedSimpArgs false

theorem alphaM_bd (n : Int) : 0 ≤ alphaM n ∧ alphaM n < 256 := by
  unfold alphaM
  split
  · decide
  · split
    · decide
    · constructor <;> omega
theorem cov_bd (p : List (List Spt)) : ∀ z ∈ (fillM p).cov, 0 ≤ z ∧ z < 256 := by
  intro z hz
  unfold fillM at hz
  split at hz
  · cases hz
  split at hz
  · cases hz
  split at hz
  · cases hz
  unfold coverM at hz
  obtain ⟨k, _, rfl⟩ := List.mem_map.mp hz
  exact alphaM_bd _
theorem fillM_facts (p : List (List Spt)) : (0 ≤ (fillM p).W ∧ (fillM p).W ≤ 512) ∧ (0 ≤ (fillM p).H ∧ (fillM p).H ≤ 512) ∧ ((fillM p).cov.length : Int) = (fillM p).W * (fillM p).H ∧ (0 ≤ (fillM p).W * (fillM p).H ∧ (fillM p).W * (fillM p).H ≤ 262144) ∧ (0 < (fillM p).W * (fillM p).H → (fillM p).err = 0) ∧
    ((fillM p).err ≠ 0 → fillM p = ⟨0, 0, 0, 0, [], (fillM p).err⟩) ∧ (checkM p ≠ 0 → (fillM p).err = checkM p) ∧ (checkM p = 0 → (fillM p).err ≠ 0 → (fillM p).err = 213 ∧ (512 < wM p ∨ 512 < hM' p)) := by
  unfold fillM
  by_cases h1 : checkM p = 0
  · rw [if_neg (fun h => h h1)]
    split
    · refine ⟨by decide, by decide, by decide, by decide, by decide, by simp, fun h => absurd h1 h, fun _ h => absurd rfl h⟩
    · split
      · rename_i h2
        refine ⟨by decide, by decide, by decide, by decide, by decide, by simp, fun h => absurd h1 h, fun _ _ => ⟨rfl, h2⟩⟩
      · dsimp only
        have hl : (coverM p).length = wM p * hM' p := by unfold coverM; simp
        have h3 := mul_le512 (a := wM p) (b := hM' p) ⟨by omega, by omega⟩
        refine ⟨by omega, by omega, by rw [hl]; exact Int.natCast_mul _ _, ?_, fun _ => rfl, fun h => absurd rfl h, fun h => absurd h1 h, fun _ h => absurd rfl h⟩
        rw [← Int.natCast_mul]; omega
  · rw [if_pos h1]
    dsimp only
    exact ⟨by omega, by omega, rfl, by omega, by simp, by simp, fun _ => rfl, fun h => absurd h h1⟩
set_option maxHeartbeats 4000000 in
/-- The law RasterFills answers true. -/
theorem fills_sp {s : St} {H : Hp} {A : Option Addr} {cp : Nat} {p : List (List Spt)} {SM : List Cr → List Cr} (hX : OwnX X) (hE : ExtOk X ro SM) (hM : Models ro s H) (hp : PolyH H A p) (hb : p.length ≤ 2000000) (hbig : totM p ≤ 2000000) :
    Sp X Try.prog ro 4 [.slice A p.length cp] s fun v H' => v = .bool true := by
  refine Sp.of_body (hX _ _ _ (by decide) (by decide) (by decide) (by decide)) Try.func4 rfl Try.ntmps4 (by simp) ?_
  refine WC.seq ?_
  refine WC.region ?_
  refine WO.cons (SV.assignV (by constructor) ?_) (by decide)
  refine WO.nil ?_
  refine WC.seq (WC.seq ?_)
  refine WC.region ?_
  refine WO.cons ?_ (by decide)
  refine SV.callM rfl rfl (hE.alive _ _ hM) ?_
  rintro v s1 H1 hn1 hM1 ⟨rfl, rfl⟩
  refine WO.cons (SV.notT rfl (by rfl) ?_) (by decide)
  refine WO.nil ?_
  refine WC.condF rfl (by rfl) (WC.skip (WC.seq ?_))
  refine WC.region ?_
  refine WO.cons (SV.moveV (by constructor) ?_) (by decide)
  refine WO.cons ?_ (by decide)
  refine SV.callM rfl rfl (copy_sp hX hM1 hp (by omega) (by omega)) ?_
  rintro v s2 H2 hn2 hM2 ⟨A', c', rfl, hp2, hE2⟩
  refine WO.cons (SV.assignV (by constructor) ?_) (by decide)
  refine WO.nil ?_
  refine WC.seq ?_
  refine WC.region ?_
  refine WO.cons (SV.moveV (by constructor) ?_) (by decide)
  refine WO.cons ?_ (by decide)
  refine SV.callM rfl rfl (fillC_sp hX hE hM2 hp2 (by omega) (by omega)) ?_
  rintro v s3 H3 hn3 hM3 ⟨cv, rfl, hcv, hE3⟩
  obtain ⟨B9, c9, rfl⟩ := slO_form hcv
  obtain ⟨⟨f1, f2⟩, ⟨f3, f4⟩, f5, ⟨f6, f7⟩, f8, f9, f10, f11⟩ := fillM_facts p
  have hbd := cov_bd p
  obtain ⟨M, hMM⟩ : ∃ M, M = fillM p := ⟨_, rfl⟩
  rw [← hMM] at f1 f2 f3 f4 f5 f6 f7 f8 f9 f10 f11 hbd hcv
  rw [← hMM]
  refine WO.cons (SV.moveV (by constructor) ?_) (by decide)
  refine WO.cons (SV.extract rfl rfl ?_) (by decide)
  refine WO.cons (SV.extract rfl rfl ?_) (by decide)
  refine WO.cons (SV.allocM (by assumption) (fun a4_5 s4_5 hf4_5 hne4_5 hn4_5 hM4_5 => ?_)) (by decide)
  refine WO.cons0 ?_
  refine SV.storeMA hM4_5 rfl rfl rfl rfl Hp.up_same (by simp) (fun s4_6 hn4_6 hM4_6 => ?_)
  rw [Hp.up_up] at hM4_6
  replace hM4_6 : Models ro s4_6 (H3.up a4_5 (.row 0 [.int .i64 M.X, .int .i64 M.Y, .int .i64 M.W, .int .i64 M.H, .slice B9 M.cov.length c9])) := hM4_6
  have hE4 : Ext H3 (H3.up a4_5 (.row 0 [.int .i64 M.X, .int .i64 M.Y, .int .i64 M.W, .int .i64 M.H, .slice B9 M.cov.length c9])) := ext_up hne4_5
  have h44 : (H3.up a4_5 (.row 0 [.int .i64 M.X, .int .i64 M.Y, .int .i64 M.W, .int .i64 M.H, .slice B9 M.cov.length c9])) a4_5 = some (.row 0 [.int .i64 M.X, .int .i64 M.Y, .int .i64 M.W, .int .i64 M.H, .slice B9 M.cov.length c9]) := Hp.up_same
  obtain ⟨H4, hH4⟩ : ∃ H4 : Hp, H4 = H3.up a4_5 (.row 0 [.int .i64 M.X, .int .i64 M.Y, .int .i64 M.W, .int .i64 M.H, .slice B9 M.cov.length c9]) := ⟨_, rfl⟩
  rw [← hH4] at hM4_6 hE4 h44
  refine WO.cons (SV.assignV (by constructor) ?_) (by decide)
  refine WO.nil ?_
  have hp4 := hp2.ext (hE3.trans hE4)
  have hp0 := hp.ext (hE2.trans (hE3.trans hE4))
  have hcv4 := slO_ext hcv fun μ o _ e => hE4 μ o e
  refine WC.seq (WC.seq ?_)
  refine WC.region ?_
  refine WO.cons (SV.moveV (by constructor) ?_) (by decide)
  refine WO.cons (SV.moveV (by constructor) ?_) (by decide)
  refine WO.cons ?_ (by decide)
  refine SV.callM rfl rfl (sameSpots_sp hX hM4_6 hp4 hp0 (by omega) (by omega)) ?_
  rintro v s5 H5 hn5 hM5 ⟨rfl, rfl⟩
  refine WO.cons (SV.notT rfl (by rfl) ?_) (by decide)
  refine WO.nil ?_
  refine WC.condF rfl (by rfl) (WC.skip (WC.seq (WC.seq ?_)))
  refine WC.region ?_
  refine WO.cons (SV.moveV (by constructor) ?_) (by decide)
  refine WO.cons (SV.len rfl rfl ?_) (by decide)
  refine WO.cons (SV.gtr rfl rfl ?_) (by decide)
  refine WO.nil ?_
  refine WC.condD rfl (fun h100 h100b => ?_) (fun h100 h100b => ?_)
  · refine WC.seq ?_
    refine WC.region ?_
    refine WO.cons (SV.assignV (by constructor) ?_) (by decide)
    refine WO.nil ?_
    refine WC.ret ?_
    exact fin_one (e := .ret) (v := .bool _) rfl trivial rfl (by omega) hM5 rfl
  have hd1 : decide (M.W < 0) = false := decide_eq_false (by omega)
  have hd2 : decide (M.H < 0) = false := decide_eq_false (by omega)
  have hd3 : decide (512 < M.W) = false := decide_eq_false (by omega)
  have hd4 : decide (512 < M.H) = false := decide_eq_false (by omega)
  have hd5 : decide ((M.cov.length : Int) ≠ M.W * M.H) = false := decide_eq_false (by omega)
  refine WC.skip (WC.seq (WC.seq ?_))
  refine WC.region ?_
  refine WO.cons (SV.fieldAddr rfl ?_) (by decide)
  refine WO.cons (SV.loadM (by assumption) rfl (by assumption) (by rfl) ?_) (by decide)
  refine WO.cons (SV.lss rfl rfl ?_) (by decide)
  refine WO.cons (SV.moveV (by constructor) ?_) (by decide)
  refine WO.guardY rfl rfl rfl (by assumption) (SV.fieldAddr rfl ?_) (by decide)
  all_goals (refine WO.guardY rfl rfl rfl (by assumption) (SV.loadM (by assumption) rfl (by assumption) (by rfl) ?_) (by decide))
  all_goals (refine WO.guardY rfl rfl rfl (by assumption) (SV.lss rfl rfl ?_) (by decide))
  all_goals (refine WO.cons (SV.pickFV rfl (by assumption) (by constructor) ?_) (by decide))
  all_goals refine WO.cons (SV.moveV (by constructor) ?_) (by decide)
  all_goals (refine WO.guardY rfl rfl rfl (by assumption) (SV.fieldAddr rfl ?_) (by decide))
  all_goals (refine WO.guardY rfl rfl rfl (by assumption) (SV.loadM (by assumption) rfl (by assumption) (by rfl) ?_) (by decide))
  all_goals (refine WO.guardY rfl rfl rfl (by assumption) (SV.gtr rfl rfl ?_) (by decide))
  all_goals (refine WO.cons (SV.pickFV rfl (by assumption) (by constructor) ?_) (by decide))
  all_goals refine WO.cons (SV.moveV (by constructor) ?_) (by decide)
  all_goals (refine WO.guardY rfl rfl rfl (by assumption) (SV.fieldAddr rfl ?_) (by decide))
  all_goals (refine WO.guardY rfl rfl rfl (by assumption) (SV.loadM (by assumption) rfl (by assumption) (by rfl) ?_) (by decide))
  all_goals (refine WO.guardY rfl rfl rfl (by assumption) (SV.gtr rfl rfl ?_) (by decide))
  all_goals (refine WO.cons (SV.pickFV rfl (by assumption) (by constructor) ?_) (by decide))
  all_goals refine WO.cons (SV.moveV (by constructor) ?_) (by decide)
  all_goals (refine WO.guardY rfl rfl rfl (by assumption) (SV.fieldAddr rfl ?_) (by decide))
  all_goals (refine WO.guardY rfl rfl rfl (by assumption) (SV.loadM (by assumption) rfl (by assumption) (by rfl) ?_) (by decide))
  all_goals (refine WO.guardY rfl rfl rfl (by assumption) (SV.len rfl rfl ?_) (by decide))
  all_goals (refine WO.guardY rfl rfl rfl (by assumption) (SV.fieldAddr rfl ?_) (by decide))
  all_goals (refine WO.guardY rfl rfl rfl (by assumption) (SV.loadM (by assumption) rfl (by assumption) (by rfl) ?_) (by decide))
  all_goals (refine WO.guardY rfl rfl rfl (by assumption) (SV.fieldAddr rfl ?_) (by decide))
  all_goals (refine WO.guardY rfl rfl rfl (by assumption) (SV.loadM (by assumption) rfl (by assumption) (by rfl) ?_) (by decide))
  all_goals (refine WO.guardY rfl rfl rfl (by assumption) (SV.mul64 rfl rfl (by omega) ?_) (by decide))
  all_goals (refine WO.guardY rfl rfl rfl (by assumption) (SV.neqI rfl rfl ?_) (by decide))
  all_goals (refine WO.cons (SV.pickFV rfl (by assumption) (by constructor) ?_) (by decide))
  all_goals refine WO.nil ?_
  refine WC.condF rfl (by assumption) (WC.skip (WC.seq (WC.seq ?_)))
  refine WC.region ?_
  refine WO.cons (SV.fieldAddr rfl ?_) (by decide)
  refine WO.cons (SV.loadM (by assumption) rfl (by assumption) (by rfl) ?_) (by decide)
  refine WO.cons (SV.fieldAddr rfl ?_) (by decide)
  refine WO.cons (SV.loadM (by assumption) rfl (by assumption) (by rfl) ?_) (by decide)
  refine WO.cons (SV.mul64 rfl rfl (by omega) ?_) (by decide)
  refine WO.cons (SV.gtr rfl rfl ?_) (by decide)
  refine WO.nil ?_
  refine WC.condD rfl (fun h20 h20b => ?_) (fun h20 h20b => ?_)
  · have hd6 : decide (M.err = 0) = true := decide_eq_true (f8 (by omega))
    refine WC.seq ?_
    refine WC.region ?_
    refine WO.cons (SV.moveV (by constructor) ?_) (by decide)
    refine WO.cons (SV.eqlI rfl rfl ?_) (by decide)
    refine WO.cons (SV.assignV (by constructor) ?_) (by decide)
    refine WO.nil ?_
    refine WC.ret ?_
    refine fin_one (e := .ret) (v := .bool _) rfl trivial rfl (by omega) hM5 (by rw [hd6])
  refine WC.skip (WC.seq ?_)
  refine WC.region ?_
  refine WO.cons (SV.moveV (by constructor) ?_) (by decide)
  refine WO.cons ?_ (by decide)
  refine SV.callM rfl rfl (checkD_sp hX hM5 hp0 (by omega) (by omega)) ?_
  rintro v s13 H13 hn13 hM13 ⟨rfl, rfl⟩
  refine WO.cons (SV.assignV (by constructor) ?_) (by decide)
  refine WO.nil ?_
  refine WC.seq (WC.seq ?_)
  refine WC.region ?_
  refine WO.cons (SV.moveV (by constructor) ?_) (by decide)
  refine WO.cons (SV.neqI rfl rfl ?_) (by decide)
  refine WO.nil ?_
  have hz0 : SlO H13 (.slice none 0 0) 1 ([] : List Int).length (([] : List Int).map (.int .u8)) := .inl ⟨rfl, rfl, rfl⟩
  by_cases hc : checkM p = 0
  rotate_left
  · have hd6 : decide (checkM p ≠ 0) = true := decide_eq_true hc
    have he := f10 hc
    have hd7 : decide (M.err = checkM p) = true := decide_eq_true he
    have hm := f9 (by rw [he]; exact hc)
    refine WC.condT rfl (by assumption) (WC.seq ?_)
    refine WC.region ?_
    refine WO.cons (SV.moveV (by constructor) ?_) (by decide)
    refine WO.cons (SV.moveV (by constructor) ?_) (by decide)
    refine WO.cons (SV.eqlI rfl rfl ?_) (by decide)
    refine WO.cons (SV.moveV (by constructor) ?_) (by decide)
    refine WO.guardY rfl rfl rfl (by assumption) ?_ (by decide)
    refine SV.loadMA (l := [.int .i64 M.X, .int .i64 M.Y, .int .i64 M.W, .int .i64 M.H, .slice B9 M.cov.length c9]) hM13 rfl h44 rfl (fun i v hv => by rw [Nat.zero_add]; exact hv) ?_
    refine WO.guardY rfl rfl rfl (by assumption) (SV.build rfl ?_) (by decide)
    all_goals (refine WO.guardY rfl rfl rfl (by assumption) ?_ (by decide))
    refine SV.callM rfl rfl (same_sp hX hM13 hcv4 hz0 hbd (by simp)) ?_
    rintro v s15 H15 hn15 hM15 ⟨rfl, rfl⟩
    rw [show decide (M.X = 0 ∧ M.Y = 0 ∧ M.W = 0 ∧ M.H = 0 ∧ M.cov = []) = true by rw [hm]; rfl]
    refine WO.cons (SV.pickTV rfl (by assumption) (by constructor) ?_) (by decide)
    all_goals refine WO.cons (SV.assignV (by constructor) ?_) (by decide)
    all_goals refine WO.nil ?_
    refine WC.ret ?_
    exact fin_one (e := .ret) (v := .bool _) rfl trivial rfl (by omega) hM15 rfl
  have hd6 : decide (checkM p ≠ 0) = false := decide_eq_false (by simp [hc])
  obtain ⟨htot, hwide⟩ := checkM_ok hc
  refine WC.condF rfl (by assumption) (WC.skip (WC.seq (WC.seq ?_)))
  refine WC.region ?_
  refine WO.cons (SV.moveV (by constructor) ?_) (by decide)
  refine WO.cons (SV.neqI rfl rfl ?_) (by decide)
  refine WO.nil ?_
  by_cases he : M.err = 0
  · have hd7 : decide (M.err ≠ 0) = false := decide_eq_false (by simp [he])
    refine WC.condF rfl (by assumption) (WC.skip (WC.seq ?_))
    refine WC.region ?_
    refine WO.cons (SV.moveV (by constructor) ?_) (by decide)
    refine WO.cons ?_ (by decide)
    refine SV.callM rfl rfl (fillD_sp hX hM13 hp0 (by omega) (by omega)) ?_
    rintro v s26 H26 hn26 hM26 ⟨cv2, rfl, hcv2, hE26⟩
    rw [← hMM] at hcv2
    rw [← hMM]
    obtain ⟨B8, c8, rfl⟩ := slO_form hcv2
    refine WO.cons (SV.moveV (by constructor) ?_) (by decide)
    refine WO.cons (SV.extract rfl rfl ?_) (by decide)
    refine WO.cons (SV.extract rfl rfl ?_) (by decide)
    refine WO.cons (SV.allocM (by assumption) (fun a26_5 s26_5 hf26_5 hne26_5 hn26_5 hM26_5 => ?_)) (by decide)
    refine WO.cons0 ?_
    refine SV.storeMA hM26_5 rfl rfl rfl rfl Hp.up_same (by simp) (fun s26_6 hn26_6 hM26_6 => ?_)
    rw [Hp.up_up] at hM26_6
    replace hM26_6 : Models ro s26_6 (H26.up a26_5 (.row 0 [.int .i64 M.X, .int .i64 M.Y, .int .i64 M.W, .int .i64 M.H, .slice B8 M.cov.length c8])) := hM26_6
    have hE27 : Ext H26 (H26.up a26_5 (.row 0 [.int .i64 M.X, .int .i64 M.Y, .int .i64 M.W, .int .i64 M.H, .slice B8 M.cov.length c8])) := ext_up hne26_5
    have h27 : (H26.up a26_5 (.row 0 [.int .i64 M.X, .int .i64 M.Y, .int .i64 M.W, .int .i64 M.H, .slice B8 M.cov.length c8])) a26_5 = some (.row 0 [.int .i64 M.X, .int .i64 M.Y, .int .i64 M.W, .int .i64 M.H, .slice B8 M.cov.length c8]) := Hp.up_same
    obtain ⟨H27, hH27⟩ : ∃ H27 : Hp, H27 = H26.up a26_5 (.row 0 [.int .i64 M.X, .int .i64 M.Y, .int .i64 M.W, .int .i64 M.H, .slice B8 M.cov.length c8]) := ⟨_, rfl⟩
    rw [← hH27] at hM26_6 hE27 h27
    have h427 := hE27 _ _ (hE26 _ _ h44)
    refine WO.cons (SV.assignV (by constructor) ?_) (by decide)
    refine WO.nil ?_
    refine WC.seq ?_
    refine WC.region ?_
    refine WO.cons ?_ (by decide)
    refine SV.loadMA (l := [.int .i64 M.X, .int .i64 M.Y, .int .i64 M.W, .int .i64 M.H, .slice B9 M.cov.length c9]) hM26_6 rfl h427 rfl (fun i v hv => by rw [Nat.zero_add]; exact hv) ?_
    refine WO.cons ?_ (by decide)
    refine SV.loadMA (l := [.int .i64 M.X, .int .i64 M.Y, .int .i64 M.W, .int .i64 M.H, .slice B8 M.cov.length c8]) hM26_6 rfl h27 rfl (fun i v hv => by rw [Nat.zero_add]; exact hv) ?_
    refine WO.cons ?_ (by decide)
    refine SV.callM rfl rfl (same_sp hX hM26_6 (slO_ext hcv4 fun μ o _ e => hE27 _ _ (hE26 _ _ e)) (slO_ext hcv2 fun μ o _ e => hE27 _ _ e) hbd hbd) ?_
    rintro v s28 H28 hn28 hM28 ⟨rfl, rfl⟩
    refine WO.cons (SV.assignV (by constructor) ?_) (by decide)
    refine WO.nil ?_
    refine WC.ret ?_
    exact fin_one (e := .ret) (v := .bool _) rfl trivial rfl (by omega) hM28 (by simp)
  have hd7 : decide (M.err ≠ 0) = true := decide_eq_true he
  obtain ⟨he2, hbg⟩ := f11 hc he
  have hm := f9 he
  refine WC.condT rfl (by assumption) (WC.seq ?_)
  refine WC.region ?_
  refine WO.cons (SV.buildSliceM (by assumption) rfl rfl (fun a17_0 s17_0 hf17_0 hne17_0 hn17_0 hM17_0 => ?_)) (by decide)
  refine WO.cons (SV.assignV (by constructor) ?_) (by decide)
  refine WO.nil ?_
  replace hM17_0 : Models ro s17_0 (H13.up a17_0 (.row 2 [])) := hM17_0
  have hE17 : Ext H13 (H13.up a17_0 (.row 2 [])) := ext_up hne17_0
  have hf17 : H13 a17_0 = none := hf17_0
  refine WC.seq (WC.seq ?_)
  refine WC.region ?_
  refine WO.cons (SV.moveV (by constructor) ?_) (by decide)
  refine WO.cons (SV.len rfl rfl ?_) (by decide)
  refine WO.cons (SV.moveV (by constructor) ?_) (by decide)
  refine WO.nil ?_
  refine WC.block ?_
  refine WC.loop (D := Nat × Value) (fun x => [(4, .pointer (some ⟨a4_5, 0, none⟩)), (5, .int .i64 M.err), (7, x.2), (83, .slice A p.length cp), (84, .int .i64 p.length), (85, .int .i64 x.1)])
    (fun x s1 => s.next ≤ s1.next ∧ ∃ H2, Models ro s1 H2 ∧ x.1 ≤ p.length ∧ Ext H13 H2 ∧ SlO H2 x.2 2 (p.take x.1).flatten.length ((p.take x.1).flatten.flatMap encS) ∧ ∀ μ, baseV x.2 = some μ → H13 μ = none) (fun x => p.length - x.1) (0, .slice (some ⟨a17_0, 0, none⟩) 0 0) ?_ ⟨by omega, _, hM17_0, Nat.zero_le _, hE17, .inr ⟨a17_0, 0, [], rfl, Hp.up_same, rfl, by simp, by simp⟩, fun μ e => by cases e; exact hf17⟩ ?_
  · exact ⟨rfl, rfl, rfl, rfl, rfl, rfl, trivial⟩
  rintro ⟨i, vo⟩ g s20 ⟨hn20, H20, hM20, hi, hE20, hvo, hfo⟩
  dsimp only at hi hvo hfo ⊢
  refine WC.seq ?_
  refine WC.region ?_
  refine WO.cons (SV.lss rfl rfl ?_) (by decide)
  refine WO.nil ?_
  refine WC.seq ?_
  refine WC.condD rfl (fun hlt hltb => ?_) (fun hlt hltb => ?_)
  · obtain ⟨c, hcc, hdr⟩ := drop_cons (L := p) (i := i) (by omega)
    have hcl := len_le_tot (List.mem_of_getElem? hcc)
    obtain ⟨ν, o, B, k, rfl, hcell, hS⟩ := (hp0.ext hE20) i c hcc
    refine WC.skip (WC.seq (WC.block (WC.seq ?_)))
    refine WC.region ?_
    refine WO.cons (SV.indexAddr rfl rfl (by omega) ?_) (by decide)
    refine WO.cons (SV.loadC (by assumption) rfl (by assumption) ?_) (by decide)
    refine WO.cons (SV.assignV (by constructor) ?_) (by decide)
    refine WO.nil ?_
    have hfl : (p.take i).flatten.length ≤ 16384 := by rw [flat_len]; exact Nat.le_trans tot_take htot
    refine WC.region ?_
    refine WO.cons (SV.move ?_) (by decide)
    refine WO.cons (SV.moveV (by constructor) ?_) (by decide)
    refine WO.cons ?_ (by decide)
    refine SV.appendM (sz := 2) (sz' := 2) (m := c.length) (xs := c.flatMap encS) rfl hM20 rfl rfl hvo (src_spot hS) rfl (by omega) (fun v8 s8 H8 hn8 hM8 hv8 hk8 hnew8 _ => ?_)
    refine WO.cons (SV.assign ?_) (by decide)
    refine WO.nil ?_
    refine WC.region ?_
    refine WO.cons (SV.add64 rfl rfl (by omega) ?_) (by decide)
    refine WO.cons (SV.moveV (by constructor) ?_) (by decide)
    refine WO.nil ?_
    have htk : p.take (i + 1) = p.take i ++ [c] := by rw [List.take_add_one, hcc]; rfl
    refine ⟨rfl, (i + 1, v8), ⟨rfl, rfl, rfl, rfl, rfl, by show some (Value.int .i64 ((i : Int) + 1)) = _; rfl, trivial⟩, ⟨by omega, H8, hM8, by dsimp only; omega, hE20.kept hk8 hfo, ?_, hnew8.none hE20 hfo⟩, by dsimp only; omega⟩
    dsimp only
    rw [htk, List.flatten_append, List.length_append, List.flatMap_append]
    simpa using hv8
  obtain rfl : i = p.length := by omega
  rw [List.take_length] at hvo
  refine WC.exit (WC.seq ?_)
  refine WC.region ?_
  refine WO.cons (SV.move ?_) (by decide)
  refine WO.cons ?_ (by decide)
  refine SV.callM rfl rfl (hull_sp hX hM20 hvo (by rw [flat_len]; omega)) ?_
  rintro v s21 H21 hn21 hM21 ⟨rfl, rfl⟩
  rw [← box_flat, ← box_so]
  refine WO.cons (SV.moveV (by constructor) ?_) (by decide)
  refine WO.cons (SV.extract rfl rfl ?_) (by decide)
  refine WO.cons (SV.extract rfl rfl ?_) (by decide)
  refine WO.cons (SV.allocM (by assumption) (fun a23_5 s23_5 hf23_5 hne23_5 hn23_5 hM23_5 => ?_)) (by decide)
  refine WO.cons0 ?_
  refine SV.storeMA hM23_5 rfl rfl rfl rfl Hp.up_same (by simp) (fun s23_6 hn23_6 hM23_6 => ?_)
  rw [Hp.up_up] at hM23_6
  refine WO.cons (SV.assignV (by constructor) ?_) (by decide)
  refine WO.nil ?_
  have hbb := box_bd hwide
  obtain ⟨⟨u1, u2⟩, ⟨u3, u4⟩, ⟨u5, u6⟩, u7, u8⟩ := hbb
  obtain ⟨x0, hx0⟩ : ∃ x, x = (boxM p).x0 := ⟨_, rfl⟩
  obtain ⟨y0, hy0⟩ : ∃ x, x = (boxM p).y0 := ⟨_, rfl⟩
  obtain ⟨x1, hx1⟩ : ∃ x, x = (boxM p).x1 := ⟨_, rfl⟩
  obtain ⟨y1, hy1⟩ : ∃ x, x = (boxM p).y1 := ⟨_, rfl⟩
  rw [← hx0] at u1 u2
  rw [← hy0] at u3 u4
  rw [← hx1] at u5 u6
  rw [← hy1] at u7 u8
  unfold wM hM' at hbg
  rw [← hx0, ← hy0, ← hx1, ← hy1] at hbg
  rw [← hx0, ← hy0, ← hx1, ← hy1] at hM23_6
  replace hM23_6 : Models ro s23_6 (H21.up a23_5 (.row 0 [.int .i64 x0, .int .i64 y0, .int .i64 x1, .int .i64 y1])) := hM23_6
  have hE23 : Ext H21 (H21.up a23_5 (.row 0 [.int .i64 x0, .int .i64 y0, .int .i64 x1, .int .i64 y1])) := ext_up hne23_5
  have h23 : (H21.up a23_5 (.row 0 [.int .i64 x0, .int .i64 y0, .int .i64 x1, .int .i64 y1])) a23_5 = some (.row 0 [.int .i64 x0, .int .i64 y0, .int .i64 x1, .int .i64 y1]) := Hp.up_same
  have hEE := hE20.trans hE23
  obtain ⟨H23, hH23⟩ : ∃ H27 : Hp, H27 = H21.up a23_5 (.row 0 [.int .i64 x0, .int .i64 y0, .int .i64 x1, .int .i64 y1]) := ⟨_, rfl⟩
  rw [← hH23] at hM23_6 hEE h23
  refine WC.seq ?_
  let Hk := H23
  have hMk : Models ro s23_6 Hk := hM23_6
  refine WC.drawM [2, 5, 11, 14] Hk [0, 1, 2, 3, 4, 5, 6, 7, 8, 9, 10, 11, 12, 13, 14, 15, 16, 17, 18] (by kernel_rfl) (by kernel_rfl) (by kernel_rfl) ?_
  refine WM.act (by decide) (by kernel_rfl) (SV.fieldAddr rfl ?_) (by decide)
  refine WM.read (St1.load rfl (by assumption) (by rfl) (by exact sameV_int _ _)) (by assumption) ?_ (by decide)
  refine WM.actU (by kernel_rfl) (by assumption) ?_ (by decide)
  refine SV.callM rfl rfl (down_sp hX hM23_6 (by omega)) ?_
  rintro v s24 H24 hn24 hM24 ⟨rfl, rfl⟩
  refine ⟨hM24, ?_⟩
  have hMk2 : Models ro s24 Hk := hM24
  refine WM.act (by decide) (by kernel_rfl) (SV.fieldAddr rfl ?_) (by decide)
  refine WM.read (St1.load rfl (by assumption) (by rfl) (by exact sameV_int _ _)) (by assumption) ?_ (by decide)
  refine WM.actU (by kernel_rfl) (by assumption) ?_ (by decide)
  refine SV.callM rfl rfl (down_sp hX hM24 (by omega)) ?_
  rintro v s25 H25 hn25 hM25 ⟨rfl, rfl⟩
  refine ⟨hM25, ?_⟩
  have hMk3 : Models ro s25 Hk := hM25
  have hd8 : decide (M.err = 213) = true := decide_eq_true he2
  have h4k := hEE _ _ h44
  by_cases hw8 : 512 ≤ x1 / 64 - x0 / 64
  · have hd9 : decide (512 ≤ x1 / 64 - x0 / 64) = true := decide_eq_true hw8
    refine WM.act (by decide) (by kernel_rfl) (SV.sub64 rfl rfl (by omega) ?_) (by decide)
    refine WM.act (by decide) (by kernel_rfl) (SV.geq rfl rfl ?_) (by decide)
    refine WM.act (by decide) (by kernel_rfl) (SV.moveV (by constructor) ?_) (by decide)
    refine WM.gNo rfl rfl rfl (by assumption) (by assumption) ?_ (by decide)
    refine WM.gNo rfl rfl rfl (by assumption) (by assumption) ?_ (by decide)
    refine WM.gNo rfl rfl rfl (by assumption) (by assumption) ?_ (by decide)
    refine WM.gNo rfl rfl rfl (by assumption) (by assumption) ?_ (by decide)
    refine WM.gNo rfl rfl rfl (by assumption) (by assumption) ?_ (by decide)
    refine WM.gNo rfl rfl rfl (by assumption) (by assumption) ?_ (by decide)
    refine WM.gNo rfl rfl rfl (by assumption) (by assumption) ?_ (by decide)
    refine WM.gNo rfl rfl rfl (by assumption) (by assumption) ?_ (by decide)
    refine WM.act (by decide) (by kernel_rfl) (SV.pickTV rfl (by assumption) (by constructor) ?_) (by decide)
    refine WM.act (by decide) (by kernel_rfl) (SV.assignV (by constructor) ?_) (by decide)
    refine WM.nil ?_
    refine WC.seq ?_
    refine WC.region ?_
    refine WO.cons (SV.moveV (by constructor) ?_) (by decide)
    refine WO.cons (SV.eqlI rfl rfl ?_) (by decide)
    refine WO.cons (SV.moveV (by constructor) ?_) (by decide)
    refine WO.guardY rfl rfl rfl (by assumption) (SV.moveV (by constructor) ?_) (by decide)
    all_goals (refine WO.cons (SV.pickTV rfl (by assumption) (by constructor) ?_) (by decide))
    all_goals refine WO.cons (SV.moveV (by constructor) ?_) (by decide)
    all_goals (refine WO.guardY rfl rfl rfl (by rfl) ?_ (by decide))
    refine SV.loadMA (l := [.int .i64 M.X, .int .i64 M.Y, .int .i64 M.W, .int .i64 M.H, .slice B9 M.cov.length c9]) hM25 rfl h4k rfl (fun i v hv => by rw [Nat.zero_add]; exact hv) ?_
    refine WO.guardY rfl rfl rfl (by rfl) (SV.build rfl ?_) (by decide)
    all_goals (refine WO.guardY rfl rfl rfl (by rfl) ?_ (by decide))
    refine SV.callM rfl rfl (same_sp hX hM25 (slO_ext hcv4 fun μ o _ e => hEE _ _ e) (.inl ⟨rfl, rfl, rfl⟩) hbd (cb := []) (by simp)) ?_
    rintro v s15 H15 hn15 hM15 ⟨rfl, rfl⟩
    rw [show decide (M.X = 0 ∧ M.Y = 0 ∧ M.W = 0 ∧ M.H = 0 ∧ M.cov = []) = true by rw [hm]; rfl]
    refine WO.cons (SV.pickTV rfl (by rfl) (by constructor) ?_) (by decide)
    all_goals refine WO.cons (SV.assignV (by constructor) ?_) (by decide)
    all_goals refine WO.nil ?_
    refine WC.ret ?_
    exact fin_one (e := .ret) (v := .bool _) rfl trivial rfl (by omega) hM15 rfl
  · have hd9 : decide (512 ≤ x1 / 64 - x0 / 64) = false := decide_eq_false hw8
    have hd10 : decide (512 ≤ y1 / 64 - y0 / 64) = true := decide_eq_true (by omega)
    refine WM.act (by decide) (by kernel_rfl) (SV.sub64 rfl rfl (by omega) ?_) (by decide)
    refine WM.act (by decide) (by kernel_rfl) (SV.geq rfl rfl ?_) (by decide)
    refine WM.act (by decide) (by kernel_rfl) (SV.moveV (by constructor) ?_) (by decide)
    refine WM.gAct rfl rfl rfl (by assumption) (by decide) (by kernel_rfl) (SV.fieldAddr rfl ?_) (by decide)
    refine WM.gRead rfl rfl rfl (by assumption) (St1.load rfl (by assumption) (by rfl) (by exact sameV_int _ _)) (by assumption) ?_ (by decide)
    refine WM.gActU rfl rfl rfl (by assumption) (by kernel_rfl) (by assumption) ?_ (by decide)
    refine SV.callM rfl rfl (down_sp hX hM25 (by omega)) ?_
    rintro v s26 H26 hn26 hM26 ⟨rfl, rfl⟩
    refine ⟨hM26, ?_⟩
    have hMk4 : Models ro s26 Hk := hM26
    refine WM.gAct rfl rfl rfl (by assumption) (by decide) (by kernel_rfl) (SV.fieldAddr rfl ?_) (by decide)
    refine WM.gRead rfl rfl rfl (by assumption) (St1.load rfl (by assumption) (by rfl) (by exact sameV_int _ _)) (by assumption) ?_ (by decide)
    refine WM.gActU rfl rfl rfl (by assumption) (by kernel_rfl) (by assumption) ?_ (by decide)
    refine SV.callM rfl rfl (down_sp hX hM26 (by omega)) ?_
    rintro v s27 H27 hn27 hM27 ⟨rfl, rfl⟩
    refine ⟨hM27, ?_⟩
    refine WM.gAct rfl rfl rfl (by assumption) (by decide) (by kernel_rfl) (SV.sub64 rfl rfl (by omega) ?_) (by decide)
    refine WM.gAct rfl rfl rfl (by assumption) (by decide) (by kernel_rfl) (SV.geq rfl rfl ?_) (by decide)
    refine WM.act (by decide) (by kernel_rfl) (SV.pickFV rfl (by assumption) (by constructor) ?_) (by decide)
    refine WM.act (by decide) (by kernel_rfl) (SV.assignV (by constructor) ?_) (by decide)
    refine WM.nil ?_
    refine WC.seq ?_
    refine WC.region ?_
    refine WO.cons (SV.moveV (by constructor) ?_) (by decide)
    refine WO.cons (SV.eqlI rfl rfl ?_) (by decide)
    refine WO.cons (SV.moveV (by constructor) ?_) (by decide)
    refine WO.guardY rfl rfl rfl (by assumption) (SV.moveV (by constructor) ?_) (by decide)
    all_goals (refine WO.cons (SV.pickTV rfl (by assumption) (by constructor) ?_) (by decide))
    all_goals refine WO.cons (SV.moveV (by constructor) ?_) (by decide)
    all_goals (refine WO.guardY rfl rfl rfl (by assumption) ?_ (by decide))
    refine SV.loadMA (l := [.int .i64 M.X, .int .i64 M.Y, .int .i64 M.W, .int .i64 M.H, .slice B9 M.cov.length c9]) hM27 rfl h4k rfl (fun i v hv => by rw [Nat.zero_add]; exact hv) ?_
    refine WO.guardY rfl rfl rfl (by assumption) (SV.build rfl ?_) (by decide)
    all_goals (refine WO.guardY rfl rfl rfl (by assumption) ?_ (by decide))
    refine SV.callM rfl rfl (same_sp hX hM27 (slO_ext hcv4 fun μ o _ e => hEE _ _ e) (.inl ⟨rfl, rfl, rfl⟩) hbd (cb := []) (by simp)) ?_
    rintro v s15 H15 hn15 hM15 ⟨rfl, rfl⟩
    rw [show decide (M.X = 0 ∧ M.Y = 0 ∧ M.W = 0 ∧ M.H = 0 ∧ M.cov = []) = true by rw [hm]; rfl]
    refine WO.cons (SV.pickTV rfl (by assumption) (by constructor) ?_) (by decide)
    all_goals refine WO.cons (SV.assignV (by constructor) ?_) (by decide)
    all_goals refine WO.nil ?_
    refine WC.ret ?_
    exact fin_one (e := .ret) (v := .bool _) rfl trivial rfl (by omega) hM15 rfl
end Go.Proofs.Ytmlplblhabdbpaa
