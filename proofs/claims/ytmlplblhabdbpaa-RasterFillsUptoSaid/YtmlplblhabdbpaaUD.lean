/- A part of the proof: rules for walking code over the evaluator, and what the functions that were walked come to: no condition but those that each theorem states. -/
import Derived.Test.YtmlplblhabdbpaaUC
set_option linter.unusedVariables false
set_option linter.unusedSimpArgs false
namespace Go.Proofs.Ytmlplblhabdbpaa
open Go.Ab
variable {X : CallE} {ro : Nat}
set_option maxRecDepth 10000
set_option linter.unusedVariables false
set_option linter.unusedSimpArgs false
theorem mul_bd {a b A B : Int} (ha : -A ≤ a ∧ a ≤ A) (hb : -B ≤ b ∧ b ≤ B) : -(A * B) ≤ a * b ∧ a * b ≤ A * B := by
  have h1 : a.natAbs ≤ A.toNat := by omega
  have h2 : b.natAbs ≤ B.toNat := by omega
  have h3 := Nat.mul_le_mul h1 h2
  rw [← Int.natAbs_mul] at h3
  have h4 : ((A.toNat * B.toNat : Nat) : Int) = A * B := by rw [Int.natCast_mul, Int.toNat_of_nonneg (by omega), Int.toNat_of_nonneg (by omega)]
  omega
theorem tdiv_bd (a b : Int) : -(a.natAbs : Int) ≤ a.tdiv b ∧ a.tdiv b ≤ a.natAbs := by
  have h : (a.tdiv b).natAbs ≤ a.natAbs := by rw [Int.natAbs_tdiv]; exact Nat.div_le_self _ _
  omega
def upM (e : Ed) (j : Int) : Int := 2 * (e.y1 - e.y0) * e.x0 + (e.x1 - e.x0) * (2 * j + 1 - 2 * e.y0) - (e.y1 - e.y0)
def firstM (e : Ed) (j : Int) : Int := if 0 < (upM e j).tmod (2 * (e.y1 - e.y0)) then (upM e j).tdiv (2 * (e.y1 - e.y0)) + 1 else (upM e j).tdiv (2 * (e.y1 - e.y0))
theorem up_bd {e : Ed} {j : Int} (he : e.Ok) (hj : e.y0 ≤ j ∧ j < e.y1) : (-1125899906842624 ≤ 2 * (e.y1 - e.y0) * e.x0 ∧ 2 * (e.y1 - e.y0) * e.x0 ≤ 1125899906842624) ∧
    (-2251799813685248 ≤ (e.x1 - e.x0) * (2 * j + 1 - 2 * e.y0) ∧ (e.x1 - e.x0) * (2 * j + 1 - 2 * e.y0) ≤ 2251799813685248) := by
  obtain ⟨h1, h2, h3, h4⟩ := he
  have a := mul_bd (a := 2 * (e.y1 - e.y0)) (b := e.x0) (A := 67108864) (B := 16777216) (by omega) (by omega)
  have b := mul_bd (a := e.x1 - e.x0) (b := 2 * j + 1 - 2 * e.y0) (A := 33554432) (B := 67108864) (by omega) (by omega)
  exact ⟨by omega, by omega⟩
theorem first_bd {e : Ed} {j : Int} (he : e.Ok) (hj : e.y0 ≤ j ∧ j < e.y1) : -4503599627370496 ≤ firstM e j ∧ firstM e j ≤ 4503599627370496 := by
  have hu := up_bd he hj
  have hd := tdiv_bd (upM e j) (2 * (e.y1 - e.y0))
  have h1 : -4503599627370000 ≤ upM e j ∧ upM e j ≤ 4503599627370000 := by
    obtain ⟨h1, h2, h3, h4⟩ := he
    unfold upM; omega
  unfold firstM
  split <;> omega
set_option maxHeartbeats 1000000 in
theorem first_sp {s : St} {H : Hp} {e : Ed} {j : Int} (hX : OwnX X) (hM : Models ro s H) (he : e.Ok) (hj : e.y0 ≤ j ∧ j < e.y1) : Sp X Try.prog ro 43 [.agg (encE e).toArray, .int .i64 j] s fun v H' => v = .int .i64 (firstM e j) ∧ H' = H := by
  obtain ⟨⟨u1, u2⟩, u3, u4⟩ := up_bd he hj
  have hd := tdiv_bd (upM e j) (2 * (e.y1 - e.y0))
  obtain ⟨h1, h2, h3, h4⟩ := he
  have h5 : -4503599627370000 ≤ upM e j ∧ upM e j ≤ 4503599627370000 := by unfold upM; omega
  refine Sp.of_body (hX _ _ _ (by decide) (by decide) (by decide) (by decide)) Try.func43 rfl Try.ntmps43 (by simp) ?_
  refine WC.seq ?_
  refine WC.region ?_
  refine WO.cons (SV.boxM (by assumption) rfl (fun a0_0 s0_0 hf0_0 hne0_0 hn0_0 hM0_0 => ?_)) (by decide)
  refine WO.cons (SV.assignV (by constructor) ?_) (by decide)
  refine WO.nil ?_
  replace hM0_0 : Models ro s0_0 (H.up a0_0 (.row 0 (encE e))) := hM0_0
  have hsub : ∀ {s9 : St}, Models ro s9 (H.up a0_0 (.row 0 (encE e))) → Models ro s9 H := fun h => h.sub fun ν o h => Hp.up_ne (hne0_0 ν o h) h
  refine WC.seq ?_
  refine WC.region ?_
  refine WO.cons (SV.fieldAddr rfl ?_) (by decide)
  refine WO.cons (SV.loadM (by assumption) rfl (by exact Hp.up_same) (by rfl) ?_) (by decide)
  refine WO.cons (SV.fieldAddr rfl ?_) (by decide)
  refine WO.cons (SV.loadM (by assumption) rfl (by exact Hp.up_same) (by rfl) ?_) (by decide)
  refine WO.cons (SV.sub64 rfl rfl (by omega) ?_) (by decide)
  refine WO.cons (SV.assignV (by constructor) ?_) (by decide)
  refine WO.nil ?_
  refine WC.seq ?_
  refine WC.region ?_
  refine WO.cons (SV.moveV (by constructor) ?_) (by decide)
  refine WO.cons (SV.mul64 rfl rfl (by omega) ?_) (by decide)
  refine WO.cons (SV.fieldAddr rfl ?_) (by decide)
  refine WO.cons (SV.loadM (by assumption) rfl (by exact Hp.up_same) (by rfl) ?_) (by decide)
  refine WO.cons (SV.mul64 rfl rfl (by omega) ?_) (by decide)
  refine WO.cons (SV.fieldAddr rfl ?_) (by decide)
  refine WO.cons (SV.loadM (by assumption) rfl (by exact Hp.up_same) (by rfl) ?_) (by decide)
  refine WO.cons (SV.fieldAddr rfl ?_) (by decide)
  refine WO.cons (SV.loadM (by assumption) rfl (by exact Hp.up_same) (by rfl) ?_) (by decide)
  refine WO.cons (SV.sub64 rfl rfl (by omega) ?_) (by decide)
  refine WO.cons (SV.moveV (by constructor) ?_) (by decide)
  refine WO.cons (SV.mul64 rfl rfl (by omega) ?_) (by decide)
  refine WO.cons (SV.add64 rfl rfl (by omega) ?_) (by decide)
  refine WO.cons (SV.fieldAddr rfl ?_) (by decide)
  refine WO.cons (SV.loadM (by assumption) rfl (by exact Hp.up_same) (by rfl) ?_) (by decide)
  refine WO.cons (SV.mul64 rfl rfl (by omega) ?_) (by decide)
  refine WO.cons (SV.sub64 rfl rfl (by omega) ?_) (by decide)
  refine WO.cons (SV.mul64 rfl rfl (by omega) ?_) (by decide)
  refine WO.cons (SV.add64 rfl rfl (by omega) ?_) (by decide)
  refine WO.cons (SV.moveV (by constructor) ?_) (by decide)
  refine WO.cons (SV.sub64 rfl rfl (by omega) ?_) (by decide)
  refine WO.cons (SV.assignV (by constructor) ?_) (by decide)
  refine WO.nil ?_
  have e1 : 2 * (e.y1 - e.y0) * e.x0 + (e.x1 - e.x0) * (2 * j + 1 - 2 * e.y0) - (e.y1 - e.y0) = upM e j := rfl
  rw [e1]
  refine WC.seq ?_
  refine WC.region ?_
  refine WO.cons (SV.moveV (by constructor) ?_) (by decide)
  refine WO.cons (SV.mul64 rfl rfl (by omega) ?_) (by decide)
  refine WO.cons (SV.assignV (by constructor) ?_) (by decide)
  refine WO.nil ?_
  refine WC.seq ?_
  refine WC.region ?_
  refine WO.cons (SV.moveV (by constructor) ?_) (by decide)
  refine WO.cons (SV.moveV (by constructor) ?_) (by decide)
  refine WO.cons (SV.quo64 rfl rfl (by omega) (by omega) ?_) (by decide)
  refine WO.cons (SV.assignV (by constructor) ?_) (by decide)
  refine WO.nil ?_
  refine WC.seq (WC.seq ?_)
  refine WC.region ?_
  refine WO.cons (SV.moveV (by constructor) ?_) (by decide)
  refine WO.cons (SV.moveV (by constructor) ?_) (by decide)
  refine WO.cons (SV.rem rfl rfl (by omega) ?_) (by decide)
  refine WO.cons (SV.gtr rfl rfl ?_) (by decide)
  refine WO.nil ?_
  by_cases hc : 0 < (upM e j).tmod (2 * (e.y1 - e.y0))
  · have hdc : decide (0 < (upM e j).tmod (2 * (e.y1 - e.y0))) = true := decide_eq_true hc
    refine WC.condT rfl (by assumption) ?_
    refine WC.region ?_
    refine WO.cons (SV.moveV (by constructor) ?_) (by decide)
    refine WO.cons (SV.add64 rfl rfl (by omega) ?_) (by decide)
    refine WO.cons (SV.assignV (by constructor) ?_) (by decide)
    refine WO.nil ?_
    refine WC.seq ?_
    refine WC.region ?_
    refine WO.cons (SV.moveV (by constructor) ?_) (by decide)
    refine WO.cons (SV.assignV (by constructor) ?_) (by decide)
    refine WO.nil ?_
    refine WC.ret ?_
    exact fin_one (e := .ret) (v := .int .i64 _) rfl trivial rfl (by omega) (hsub hM0_0) ⟨by unfold firstM; rw [if_pos hc], rfl⟩
  · have hdc : decide (0 < (upM e j).tmod (2 * (e.y1 - e.y0))) = false := decide_eq_false hc
    refine WC.condF rfl (by assumption) (WC.skip (WC.seq ?_))
    refine WC.region ?_
    refine WO.cons (SV.moveV (by constructor) ?_) (by decide)
    refine WO.cons (SV.assignV (by constructor) ?_) (by decide)
    refine WO.nil ?_
    refine WC.ret ?_
    exact fin_one (e := .ret) (v := .int .i64 _) rfl trivial rfl (by omega) (hsub hM0_0) ⟨by unfold firstM; rw [if_neg hc], rfl⟩
end Go.Proofs.Ytmlplblhabdbpaa

namespace Go.Proofs.Ytmlplblhabdbpaa
open Go.Ab
variable {X : CallE} {ro : Nat}
set_option maxRecDepth 10000
set_option linter.unusedVariables false
set_option linter.unusedSimpArgs false
theorem kept_ext {H H2 H3 : Hp} {v : Value} (h : KeptBut H H2 v) (h2 : Ext H2 H3) : KeptBut H H3 v := fun μ o e hb => h2 _ _ (h μ o e hb)
theorem ext_up {H : Hp} {a : Nat} {o : Go.Ab.Obj} (hf : ∀ ν o, H ν = some o → ν ≠ a) : Ext H (H.up a o) := Ext.refl.up hf
/-- The closure: does the edge end at a row or below? -/
def delC (jb : Nat) : Value := .func (.func 42) #[] #[.pointer (some ⟨jb, 0, none⟩)]
theorem del1_sp {s : St} {H : Hp} {e : Ed} {jb es : Nat} {j : Int} (hX : OwnX X) (hM : Models ro s H) (hj : H jb = some (.row es [.int .i64 j])) : Sp X Try.prog ro 42 [.agg (encE e).toArray, .pointer (some ⟨jb, 0, none⟩)] s fun v H' => v = .bool (decide (e.y1 ≤ j)) ∧ H' = H := by
  refine Sp.of_body (hX _ _ _ (by decide) (by decide) (by decide) (by decide)) Try.func42 rfl Try.ntmps42 (by simp) ?_
  refine WC.seq ?_
  refine WC.region ?_
  refine WO.cons (SV.boxM (by assumption) rfl (fun a0_0 s0_0 hf0_0 hne0_0 hn0_0 hM0_0 => ?_)) (by decide)
  refine WO.cons (SV.assignV (by constructor) ?_) (by decide)
  refine WO.nil ?_
  replace hM0_0 : Models ro s0_0 (H.up a0_0 (.row 0 (encE e))) := hM0_0
  have hjb : (H.up a0_0 (.row 0 (encE e))) jb = some (.row es [.int .i64 j]) := Hp.up_ne (hne0_0 _ _ hj) hj
  refine WC.seq ?_
  refine WC.region ?_
  refine WO.cons (SV.fieldAddr rfl ?_) (by decide)
  refine WO.cons (SV.loadM (by assumption) rfl (by exact Hp.up_same) (by rfl) ?_) (by decide)
  refine WO.cons (SV.loadM (by assumption) rfl (by assumption) (by rfl) ?_) (by decide)
  refine WO.cons (SV.leq rfl rfl ?_) (by decide)
  refine WO.cons (SV.assignV (by constructor) ?_) (by decide)
  refine WO.nil ?_
  refine WC.ret ?_
  exact fin_one (e := .ret) (v := .bool _) rfl trivial rfl (by omega) (hM0_0.sub (H' := H) fun ν o h => Hp.up_ne (hne0_0 ν o h) h) ⟨rfl, rfl⟩
/-- IndexFunc: the first such edge. -/
theorem idx_sp {s : St} {H : Hp} {v : Value} {L : List Ed} {jb es : Nat} {j : Int} (hX : OwnX X) (hM : Models ro s H) (hv : SlO H v 5 L.length (L.flatMap encE)) (hbig : L.length ≤ 1000000) (hj : H jb = some (.row es [.int .i64 j])) :
    Sp X Try.prog ro 55 [v, delC jb] s fun r H' => ((r = .int .i64 (-1) ∧ ∀ e ∈ L, j < e.y1) ∨ ∃ A e B, L = A ++ e :: B ∧ r = .int .i64 A.length ∧ (∀ x ∈ A, j < x.y1) ∧ e.y1 ≤ j) ∧ H' = H := by
  refine Sp.of_body (hX _ _ _ (by decide) (by decide) (by decide) (by decide)) Try.func55 rfl Try.ntmps55 (by simp) ?_
  refine WC.seq ?_
  refine WC.region ?_
  refine WO.cons (SV.assignV (by constructor) ?_) (by decide)
  refine WO.nil ?_
  refine WC.seq (WC.seq ?_)
  refine WC.region ?_
  refine WO.cons (SV.move ?_) (by decide)
  refine WO.cons (SV.lenO rfl rfl (by assumption) ?_) (by decide)
  refine WO.cons (SV.moveV (by constructor) ?_) (by decide)
  refine WO.nil ?_
  refine WC.block ?_
  refine WC.loop (D := Nat) (fun i => [(0, v), (1, delC jb), (6, v), (7, .int .i64 L.length), (8, .int .i64 i)])
    (fun i s1 => s.next ≤ s1.next ∧ Models ro s1 H ∧ i ≤ L.length ∧ ∀ x ∈ L.take i, j < x.y1) (fun i => L.length - i) 0 ?_ ⟨by omega, hM, Nat.zero_le _, (fun x h => by simp at h)⟩ ?_
  · exact ⟨rfl, rfl, rfl, rfl, rfl, trivial⟩
  rintro i g s1 ⟨hn1, hM1, hi, hA⟩
  refine WC.seq ?_
  refine WC.region ?_
  refine WO.cons (SV.lss rfl rfl ?_) (by decide)
  refine WO.nil ?_
  refine WC.seq ?_
  refine WC.condD rfl (fun hlt hltb => ?_) (fun hlt hltb => ?_)
  · obtain ⟨e, he, hdr⟩ := drop_cons (L := L) (i := i) (by omega)
    obtain ⟨ν, c, rfl⟩ := hv.nonnil (by omega)
    refine WC.skip (WC.seq (WC.block (WC.seq ?_)))
    refine WC.region ?_
    refine WO.cons (SV.moveV (by constructor) ?_) (by decide)
    refine WO.cons (SV.assignV (by constructor) ?_) (by decide)
    refine WO.nil ?_
    refine WC.seq ?_
    refine WC.region ?_
    refine WO.cons (SV.moveV (by constructor) ?_) (by decide)
    refine WO.cons (SV.moveV (by constructor) ?_) (by decide)
    refine WO.cons (SV.moveV (by constructor) ?_) (by decide)
    refine WO.cons (SV.indexAddr rfl rfl (by omega) ?_) (by decide)
    refine WO.cons ?_ (by decide)
    refine SV.loadSl hM1 rfl hv encE_len rfl he (by omega) ?_
    refine WO.cons ?_ (by decide)
    refine SV.callM rfl rfl (del1_sp hX hM1 hj) ?_
    rintro r s2 H2 hn2 hM2 ⟨rfl, rfl⟩
    refine WO.nil ?_
    refine WC.condD rfl (fun hc hcb => ?_) (fun hc hcb => ?_)
    · refine WC.seq ?_
      refine WC.region ?_
      refine WO.cons (SV.moveV (by constructor) ?_) (by decide)
      refine WO.cons (SV.assignV (by constructor) ?_) (by decide)
      refine WO.nil ?_
      refine WC.ret ?_
      refine fin_one (e := .ret) (v := .int .i64 _) rfl trivial rfl (by omega) hM2 ⟨.inr ⟨L.take i, e, L.drop (i + 1), by rw [← hdr, List.take_append_drop], ?_, hA, hc⟩, rfl⟩
      rw [List.length_take, Nat.min_eq_left hi]
    · refine WC.skip ?_
      refine WC.region ?_
      refine WO.cons (SV.add64 rfl rfl (by omega) ?_) (by decide)
      refine WO.cons (SV.moveV (by constructor) ?_) (by decide)
      refine WO.nil ?_
      refine ⟨rfl, i + 1, ⟨rfl, rfl, rfl, rfl, by show some (Value.int .i64 ((i : Int) + 1)) = _; rfl, trivial⟩, ⟨by omega, hM2, by omega, fun x hx => ?_⟩, by omega⟩
      rw [List.take_add_one, he] at hx
      rcases List.mem_append.mp hx with hx | hx
      · exact hA x hx
      · simp at hx; subst hx; omega
  · refine WC.exit (WC.seq ?_)
    refine WC.region ?_
    refine WO.cons (SV.assignV (by constructor) ?_) (by decide)
    refine WO.nil ?_
    refine WC.ret ?_
    exact fin_one (e := .ret) (v := .int .i64 _) rfl trivial rfl (by omega) hM1 ⟨.inl ⟨rfl, fun e he => hA e (by rw [List.take_of_length_le (by omega)]; exact he)⟩, rfl⟩
end Go.Proofs.Ytmlplblhabdbpaa

namespace Go.Proofs.Ytmlplblhabdbpaa
open Go.Ab
variable {X : CallE} {ro : Nat}
set_option maxRecDepth 10000
set_option linter.unusedVariables false
set_option linter.unusedSimpArgs false

def keepJ (j : Int) (e : Ed) : Bool := decide (j < e.y1)
theorem flatE_len (L : List Ed) : (L.flatMap encE).length = L.length * 5 := flat_length encE 5 encE_len L
set_option maxHeartbeats 1000000 in
/-- DeleteFunc: only the edges that go on above the row stay. -/
theorem delFn_sp {s : St} {H : Hp} {v : Value} {L : List Ed} {jb es : Nat} {j : Int} (hX : OwnX X) (hM : Models ro s H) (hv : SlO H v 5 L.length (L.flatMap encE)) (hbig : L.length ≤ 1000000) (hj : H jb = some (.row es [.int .i64 j])) (hvj : baseV v ≠ some jb) :
    Sp X Try.prog ro 41 [v, delC jb] s fun r H' => SlO H' r 5 (L.filter (keepJ j)).length ((L.filter (keepJ j)).flatMap encE) ∧ KeptBut H H' v ∧ baseV r = baseV v := by
  refine Sp.of_body (hX _ _ _ (by decide) (by decide) (by decide) (by decide)) Try.func41 rfl Try.ntmps41 (by simp) ?_
  refine WC.seq ?_
  refine WC.region ?_
  refine WO.cons (SV.assignV (by constructor) ?_) (by decide)
  refine WO.nil ?_
  refine WC.seq ?_
  refine WC.region ?_
  refine WO.cons (SV.move ?_) (by decide)
  refine WO.cons (SV.moveV (by constructor) ?_) (by decide)
  refine WO.cons ?_ (by decide)
  refine SV.callM rfl rfl (idx_sp hX hM hv hbig hj) ?_
  rintro r s1 H1 hn1 hM1 ⟨hr, rfl⟩
  rcases hr with ⟨rfl, hall⟩ | ⟨A, e, B, rfl, rfl, hA, he⟩
  · refine WO.cons (SV.assignV (by constructor) ?_) (by decide)
    refine WO.nil ?_
    refine WC.seq (WC.seq ?_)
    refine WC.region ?_
    refine WO.cons (SV.moveV (by constructor) ?_) (by decide)
    refine WO.cons (SV.eqlI rfl rfl ?_) (by decide)
    refine WO.nil ?_
    refine WC.condT rfl (by rfl) (WC.seq ?_)
    refine WC.region ?_
    refine WO.cons (SV.move ?_) (by decide)
    refine WO.cons (SV.assign ?_) (by decide)
    refine WO.nil ?_
    refine WC.ret ?_
    have hf : L.filter (keepJ j) = L := List.filter_eq_self.mpr fun x hx => decide_eq_true (hall x hx)
    exact fin_one (e := .ret) rfl trivial rfl (by omega) hM1 ⟨by rw [hf]; exact hv, KeptBut.refl', rfl⟩
  · simp only [List.length_append, List.length_cons] at hbig
    obtain ⟨ν, c, rfl⟩ := hv.nonnil (by simp only [List.length_append, List.length_cons]; omega)
    have hjν : ν ≠ jb := fun h => hvj (by rw [h]; rfl)
    refine WO.cons (SV.assignV (by constructor) ?_) (by decide)
    refine WO.nil ?_
    refine WC.seq (WC.seq ?_)
    refine WC.region ?_
    refine WO.cons (SV.moveV (by constructor) ?_) (by decide)
    refine WO.cons (SV.eqlI rfl rfl ?_) (by decide)
    refine WO.nil ?_
    have hd : decide ((A.length : Int) = -1) = false := decide_eq_false (by omega)
    refine WC.condF rfl (by assumption) (WC.skip (WC.seq (WC.seq ?_)))
    refine WC.region ?_
    refine WO.cons (SV.moveV (by constructor) ?_) (by decide)
    refine WO.cons (SV.add64 rfl rfl (by omega) ?_) (by decide)
    refine WO.cons (SV.assignV (by constructor) ?_) (by decide)
    refine WO.nil ?_
    refine WC.block ?_
    have hfA : A.filter (keepJ j) = A := List.filter_eq_self.mpr fun x hx => decide_eq_true (hA x hx)
    have hfe : keepJ j e = false := decide_eq_false (by omega)
    refine WC.loop (D := List Ed × List Ed × List Ed) (fun x => [(0, .slice (some ⟨ν, 0, none⟩) (A ++ e :: B).length c), (1, delC jb), (5, .int .i64 x.1.length), (6, .int .i64 ((x.1.length : Int) + x.2.1.length))])
      (fun x s2 => s.next ≤ s2.next ∧ ∃ H2, Models ro s2 H2 ∧ SlO H2 (.slice (some ⟨ν, 0, none⟩) (A ++ e :: B).length c) 5 (A ++ e :: B).length ((x.1 ++ (x.2.1 ++ x.2.2)).flatMap encE) ∧ KeptBut H1 H2 (.slice (some ⟨ν, 0, none⟩) (A ++ e :: B).length c) ∧ (x.1 ++ (x.2.1 ++ x.2.2)).length = (A ++ e :: B).length ∧ 0 < x.2.1.length ∧ x.1 ++ x.2.2.filter (keepJ j) = (A ++ e :: B).filter (keepJ j))
      (fun x => x.2.2.length) (A, [e], B) ?_ ⟨by omega, H1, hM1, hv, KeptBut.refl', rfl, by simp, by dsimp only; rw [List.filter_append, hfA, List.filter_cons, hfe]; rfl⟩ ?_
    · exact ⟨rfl, rfl, rfl, rfl, trivial⟩
    rintro ⟨K, M, R⟩ g s2 ⟨hn2, H2, hM2, hv2, hk2, hl2, hp2, e2⟩
    dsimp only at hv2 hl2 hp2 e2 ⊢
    have hl0 := hl2
    simp only [List.length_append, List.length_cons] at hl0
    obtain ⟨N, hN⟩ : ∃ N, N = (A ++ e :: B).length := ⟨_, rfl⟩
    rw [← hN] at hv2 hl2 hk2 ⊢
    simp only [List.length_append, List.length_cons] at hN
    have hj2 : H2 jb = some (.row es [.int .i64 j]) := hk2 _ _ hj (fun h => hjν (by cases h; rfl))
    obtain ⟨q, hq⟩ : ∃ q : Int, q = (K.length : Int) + M.length := ⟨_, rfl⟩
    rw [← hq]
    refine WC.seq (WC.seq ?_)
    refine WC.region ?_
    refine WO.cons (SV.moveV (by constructor) ?_) (by decide)
    refine WO.cons (SV.moveV (by constructor) ?_) (by decide)
    refine WO.cons (SV.len rfl rfl ?_) (by decide)
    refine WO.cons (SV.lss rfl rfl ?_) (by decide)
    refine WO.nil ?_
    refine WC.condD rfl (fun hlt hltb => ?_) (fun hlt hltb => ?_)
    · cases R with
      | nil => simp at hl0; omega
      | cons r R =>
        simp only [List.length_cons] at hl0
        have hjr : (K ++ (M ++ r :: R))[K.length + M.length]? = some r := by rw [← List.append_assoc]; exact get_mid (by simp)
        refine WC.skip (WC.seq (WC.block (WC.seq ?_)))
        refine WC.region ?_
        refine WO.cons (SV.moveV (by constructor) ?_) (by decide)
        refine WO.cons (SV.moveV (by constructor) ?_) (by decide)
        refine WO.cons (SV.indexAddr rfl rfl (by omega) ?_) (by decide)
        refine WO.cons ?_ (by decide)
        refine SV.loadSl hM2 rfl hv2 encE_len hl2 hjr (by omega) ?_
        refine WO.cons (SV.allocM (by assumption) (fun a7_4 s7_4 hf7_4 hne7_4 hn7_4 hM7_4 => ?_)) (by decide)
        refine WO.cons0 ?_
        refine SV.storeMA (l := encE r) hM7_4 rfl rfl rfl rfl Hp.up_same (Nat.le_refl _) (fun s3 hn3 hM3 => ?_)
        refine WO.nil ?_
        rw [Hp.up_up] at hM3
        replace hM3 : Models ro s3 (H2.up a7_4 (.row 0 (encE r))) := hM3
        have hE3 : Ext H2 (H2.up a7_4 (.row 0 (encE r))) := ext_up hne7_4
        have hv3 := hv2.upF (o := .row 0 (encE r)) hne7_4
        have hk3 := kept_ext hk2 hE3
        refine WC.seq ?_
        refine WC.region ?_
        refine WO.cons (SV.moveV (by constructor) ?_) (by decide)
        refine WO.cons ?_ (by decide)
        refine SV.loadMA (l := encE r) hM3 rfl Hp.up_same rfl (fun i v hv => by rw [Nat.zero_add]; exact hv) ?_
        refine WO.cons ?_ (by decide)
        refine SV.callM rfl rfl (del1_sp hX hM3 (hE3 _ _ hj2)) ?_
        rintro t s4 H4 hn4 hM4 ⟨rfl, rfl⟩
        refine WO.cons (SV.notD rfl ?_) (by decide)
        refine WO.nil ?_
        by_cases hc : r.y1 ≤ j
        · have hd2 : (decide ¬ (r.y1 ≤ j)) = false := decide_eq_false (by simp [hc])
          have hkp : keepJ j r = false := decide_eq_false (by omega)
          refine WC.condF rfl (by assumption) (WC.skip ?_)
          refine WC.region ?_
          refine WO.cons (SV.moveV (by constructor) ?_) (by decide)
          refine WO.cons (SV.add64 rfl rfl (by omega) ?_) (by decide)
          refine WO.cons (SV.assignV (by constructor) ?_) (by decide)
          refine WO.nil ?_
          refine ⟨rfl, (K, M ++ [r], R), ⟨rfl, rfl, rfl, ?_, trivial⟩, ⟨by omega, _, hM4, by simpa only [List.append_assoc, List.singleton_append] using hv3, hk3, by simpa only [List.append_assoc, List.singleton_append] using hl2, by simp, by rw [← e2, List.filter_cons, hkp]; rfl⟩, by simp⟩
          show some (Value.int .i64 (q + 1)) = some (Value.int .i64 ((K.length : Int) + ((M ++ [r]).length : Int)))
          congr 2; simp; omega
        · have hd2 : (decide ¬ (r.y1 ≤ j)) = true := decide_eq_true hc
          have hkp : keepJ j r = true := decide_eq_true (by omega)
          refine WC.condT rfl (by assumption) (WC.seq ?_)
          cases M with
          | nil => simp at hp2
          | cons m M =>
            have hjm : (K ++ (m :: M ++ r :: R))[K.length]? = some m := get_mid rfl
            refine WC.region ?_
            refine WO.cons (SV.moveV (by constructor) ?_) (by decide)
            refine WO.cons (SV.moveV (by constructor) ?_) (by decide)
            refine WO.cons ?_ (by decide)
            refine SV.loadMA (l := encE r) hM4 rfl Hp.up_same rfl (fun i v hv => by rw [Nat.zero_add]; exact hv) ?_
            refine WO.cons (SV.indexAddr rfl rfl (by omega) ?_) (by decide)
            refine WO.cons0 ?_
            refine SV.storeSl (b := r) TAgg.sz hM4 rfl hv3 encE_len hl2 hjm (by omega) rfl rfl (fun s5 H5 hn5 hM5 hv5 hk5 => ?_)
            refine WO.nil ?_
            refine WC.region ?_
            refine WO.cons (SV.moveV (by constructor) ?_) (by decide)
            refine WO.cons (SV.add64 rfl rfl (by omega) ?_) (by decide)
            refine WO.cons (SV.assignV (by constructor) ?_) (by decide)
            refine WO.nil ?_
            refine WC.region ?_
            refine WO.cons (SV.moveV (by constructor) ?_) (by decide)
            refine WO.cons (SV.add64 rfl rfl (by omega) ?_) (by decide)
            refine WO.cons (SV.assignV (by constructor) ?_) (by decide)
            refine WO.nil ?_
            rw [List.cons_append, set_mid rfl] at hv5
            simp only [List.length_cons, List.cons_append] at hl2 hq
            refine ⟨rfl, (K ++ [r], M ++ [r], R), ⟨rfl, rfl, ?_, ?_, trivial⟩, ⟨by omega, H5, hM5, by simpa only [List.append_assoc, List.singleton_append, List.cons_append, List.nil_append] using hv5, hk3.trans' hk5, ?_, by simp, by rw [← e2, List.filter_cons, hkp]; simp⟩, by simp⟩
            · show some (Value.int .i64 ((K.length : Int) + 1)) = some (Value.int .i64 ((K ++ [r]).length : Int))
              congr 2; simp
            · show some (Value.int .i64 (q + 1)) = some (Value.int .i64 (((K ++ [r]).length : Int) + ((M ++ [r]).length : Int)))
              congr 2; simp; omega
            · simp only [List.length_append, List.length_cons, List.length_nil] at hl2 ⊢; omega
    · obtain rfl : R = [] := List.length_eq_zero_iff.mp (by omega)
      simp only [List.append_nil, List.filter_nil] at hv2 hl2 e2
      simp only [List.length_append] at hl2
      rw [← e2]
      rcases hv2 with ⟨h, _⟩ | ⟨ν', c', ws, h, h1, h2, h3, h4⟩
      · cases h
      · cases h
        have hKM : ((K ++ M).flatMap encE).length = N * 5 := by rw [flatE_len, List.length_append]; omega
        refine WC.exit (WC.seq ?_)
        refine WC.region ?_
        refine WO.cons (SV.moveV (by constructor) ?_) (by decide)
        refine WO.cons (SV.moveV (by constructor) ?_) (by decide)
        refine WO.cons ?_ (by decide)
        refine SV.sliceFrom (i := (K.length : Int)) (m := M.length) hM2 rfl h1 rfl (by omega) (by omega) ?_
        refine WO.cons0 ?_
        refine SV.clearM (z := [.int .i64 0, .int .i64 0, .int .i64 0, .int .i64 0, .int .i64 0]) rfl hM2 rfl h1 hp2 rfl (show (K.length : Int).toNat * 5 + M.length * 5 ≤ ws.length by omega) rfl (fun s3 hn3 hM3 => ?_)
        refine WO.nil ?_
        refine WC.seq ?_
        refine WC.region ?_
        refine WO.cons (SV.moveV (by constructor) ?_) (by decide)
        refine WO.cons (SV.moveV (by constructor) ?_) (by decide)
        refine WO.cons ?_ (by decide)
        have hsp : (splice ws ((K.length : Int).toNat * 5) (repeatL [.int .i64 0, .int .i64 0, .int .i64 0, .int .i64 0, .int .i64 0] M.length)).length = ws.length := splice_length (by rw [repL_length]; show (K.length : Int).toNat * 5 + M.length * 5 ≤ ws.length; omega)
        have hK : K.flatMap encE = (splice ws ((K.length : Int).toNat * 5) (repeatL [.int .i64 0, .int .i64 0, .int .i64 0, .int .i64 0, .int .i64 0] M.length)).take (K.length * 5) := by
          have e1 : ws.take (K.length * 5) = K.flatMap encE := by
            have := congrArg (List.take (K.length * 5)) h4
            rw [List.flatMap_append, List.take_left' (by rw [flatE_len]), List.take_take, Nat.min_eq_left (by omega)] at this
            exact this.symm
          unfold splice
          rw [Int.toNat_natCast, List.append_assoc, List.take_append_of_le_length (by rw [List.length_take]; omega), List.take_take, Nat.min_self, e1]
        have hv9 : SlO (H2.up ν (.row 5 (splice ws ((K.length : Int).toNat * 5) (repeatL [.int .i64 0, .int .i64 0, .int .i64 0, .int .i64 0, .int .i64 0] M.length)))) (.slice (some ⟨ν, 0, none⟩) N c) 5 N ((splice ws ((K.length : Int).toNat * 5) (repeatL [.int .i64 0, .int .i64 0, .int .i64 0, .int .i64 0, .int .i64 0] M.length)).take (N * 5)) :=
          .inr ⟨ν, c, _, rfl, Hp.up_same, by rw [hsp]; exact h2, h3, rfl⟩
        refine SV.sliceTo (i := (K.length : Int)) hM3 rfl hv9 rfl (by omega) (fun v9 hs9 hb9 => ?_)
        refine WO.cons (SV.assign ?_) (by decide)
        refine WO.nil ?_
        refine WC.ret ?_
        refine fin_one (e := .ret) rfl trivial rfl (by omega) hM3 ⟨?_, hk2.trans' (fun μ o h hne => Hp.up_ne (fun e => hne (by rw [e]; rfl)) h), hb9⟩
        rw [Int.toNat_natCast, List.take_take, Nat.min_eq_left (by omega)] at hs9
        rw [hK]
        exact hs9
end Go.Proofs.Ytmlplblhabdbpaa

namespace Go.Proofs.Ytmlplblhabdbpaa
open Go.Ab
variable {X : CallE} {ro : Nat}
set_option maxRecDepth 10000
set_option linter.unusedVariables false
set_option linter.unusedSimpArgs false
/-- A crossing: where, and by how much windings change. -/
abbrev Cr := Int × Int
def encC (c : Cr) : List Value := [.int .i64 c.1, .int .i64 c.2]
theorem encC_len (c : Cr) : (encC c).length = 2 := rfl
def Cr.Ok (c : Cr) : Prop := (-4503599627370496 ≤ c.1 ∧ c.1 ≤ 4503599627370496) ∧ (c.2 = 1 ∨ c.2 = -1)
/-- A span: row, from, to. -/
abbrev Sn := Int × Int × Int
def actB (j : Int) (e : Ed) : Bool := decide (e.y0 ≤ j) && decide (j < e.y1)
def actM (l : List Ed) (j : Int) : List Ed := l.filter (actB j)
def crossM (l : List Ed) (j : Int) : List Cr := (actM l j).map fun e => (firstM e j, e.by')
def spR (j : Int) : Int → List Cr → List Sn
  | _, [] => []
  | w, c :: cs => (if w + c.2 = 0 then [] else match cs with | d :: _ => [(j, c.1, d.1)] | [] => []) ++ spR j (w + c.2) cs
def spansM (SM : List Cr → List Cr) (l : List Ed) (j0 : Int) (n : Nat) : List Sn := (List.range n).flatMap fun i : Nat => spR (j0 + i) 0 (SM (crossM l (j0 + i)))
def sumB (cs : List Cr) : Int := (cs.map Prod.snd).sum
/-- What is known of the functions met by contracts. -/
structure ExtOk (X : CallE) (ro : Nat) (SM : List Cr → List Cr) : Prop where
  sort : ∀ (s : St) (H : Hp) (v : Value) (C : List Cr), Models ro s H → SlO H v 2 C.length (C.flatMap encC) → C.length ≤ 1000000 → (∀ c ∈ C, c.Ok) →
    Sp X Try.prog ro 44 [v, .func (.func 45) #[] #[]] s fun r H' => r = .tuple #[] ∧ SlO H' v 2 C.length ((SM C).flatMap encC) ∧ KeptBut H H' v
  perm : ∀ C, (SM C).Perm C
  ord : ∀ C, Srt Prod.fst (SM C)
  alive : ∀ (s : St) (H : Hp), Models ro s H → Sp X Try.prog ro 9 [] s fun r H' => r = .bool true ∧ H' = H
/-- A closure that is told spans. -/
structure Span (X : CallE) (ro : Nat) (fv : Value) (B : Nat → Prop) (Iv : List Sn → Hp → Prop) (full : List Sn) : Prop where
  fn : ∃ fs caps, fv = .func (.func fs) #[] caps ∧ ∀ (s : St) (H : Hp) (l : List Sn) (j a b : Int) (l2 : List Sn), Models ro s H → Iv l H → full = l ++ (j, a, b) :: l2 →
    Sp X Try.prog ro fs ([.int .i64 j, .int .i64 a, .int .i64 b] ++ caps.toList) s fun r H' => r = .tuple #[] ∧ Iv (l ++ [(j, a, b)]) H' ∧ ∀ ν o, ¬ B ν → H ν = some o → H' ν = some o
  fr : ∀ l H H', Iv l H → (∀ ν o, B ν → H ν = some o → H' ν = some o) → Iv l H'
  pres : ∀ l H ν, Iv l H → B ν → ∃ o, H ν = some o
/-- What goes on while rows are gone through. -/
structure Rw (H H1 : Hp) (B : Nat → Prop) (I : Hp → Prop) : Prop where
  fr : ∀ ν o, H ν = some o → ¬ B ν → H1 ν = some o
  iv : I H1
  pr : ∀ ν, B ν → ∃ o, H ν = some o
theorem Rw.ext {H H1 H2 : Hp} {B : Nat → Prop} {I : Hp → Prop} (h : Rw H H1 B I) (hI : ∀ H H', I H → (∀ ν o, B ν → H ν = some o → H' ν = some o) → I H') (he : Ext H1 H2) : Rw H H2 B I :=
  ⟨fun ν o e b => he ν o (h.fr ν o e b), hI _ _ h.iv fun ν o _ e => he ν o e, h.pr⟩
theorem Rw.kept {H H1 H2 : Hp} {B : Nat → Prop} {I : Hp → Prop} {v : Value} (h : Rw H H1 B I) (hI : ∀ H H', I H → (∀ ν o, B ν → H ν = some o → H' ν = some o) → I H') (hk : KeptBut H1 H2 v) (hb : ∀ μ, baseV v = some μ → H μ = none) : Rw H H2 B I :=
  ⟨fun ν o e b => hk ν o (h.fr ν o e b) (fun hv => by rw [hb ν hv] at e; cases e), hI _ _ h.iv (fun ν o b e => hk ν o e (fun hv => by
    obtain ⟨o', e'⟩ := h.pr ν b
    rw [hb ν hv] at e'; cases e')), h.pr⟩
/-- A new block is none of the old ones. -/
theorem Rw.new {H H1 : Hp} {B : Nat → Prop} {I : Hp → Prop} (h : Rw H H1 B I) (hp : ∀ ν, I H1 → B ν → ∃ o, H1 ν = some o) {a : Nat} (ha : ∀ ν o, H1 ν = some o → ν ≠ a) : H a = none := by
  cases e : H a with
  | none => rfl
  | some o =>
    by_cases hB : B a
    · obtain ⟨o', e'⟩ := hp a h.iv hB
      exact absurd rfl (ha a o' e')
    · exact absurd rfl (ha a o (h.fr a o e hB))
theorem SlO.cellE {H : Hp} {ν n c : Nat} {L : List Ed} (h : SlO H (.slice (some ⟨ν, 0, none⟩) n c) 5 n (L.flatMap encE)) (hL : L.length = n) {j : Nat} {a : Ed} (hj : L[j]? = some a) {f : Nat} {u : Value} (hf : (encE a)[f]? = some u) : cellH H ν (0 + j * 5 + f) = some u := by
  obtain ⟨ws, h1, _, _, _, h2, _⟩ := h.get encE_len hL hj
  unfold cellH
  rw [h1, Nat.zero_add]
  exact h2 f u hf
theorem SlO.cellC {H : Hp} {ν n c : Nat} {L : List Cr} (h : SlO H (.slice (some ⟨ν, 0, none⟩) n c) 2 n (L.flatMap encC)) (hL : L.length = n) {j : Nat} {a : Cr} (hj : L[j]? = some a) {f : Nat} {u : Value} (hf : (encC a)[f]? = some u) : cellH H ν (0 + j * 2 + f) = some u := by
  obtain ⟨ws, h1, _, _, _, h2, _⟩ := h.get encC_len hL hj
  unfold cellH
  rw [h1, Nat.zero_add]
  exact h2 f u hf
/-! ### The active edges, row by row -/
theorem filter_step {A N : List Ed} {j : Int} : ((A.filter (keepJ (j - 1)) ++ N).filter (keepJ j)) = (A ++ N).filter (keepJ j) := by
  rw [List.filter_append, List.filter_append, List.filter_filter]
  congr 1
  apply List.filter_congr
  intro x _
  unfold keepJ
  by_cases h : j < x.y1
  · simp [h]; omega
  · simp [h]
theorem act_split {A R : List Ed} {j : Int} (hA : ∀ e ∈ A, e.y0 ≤ j) (hR : ∀ e ∈ R, j < e.y0) : actM (A ++ R) j = A.filter (keepJ j) := by
  unfold actM
  rw [List.filter_append, show R.filter (actB j) = [] from List.filter_eq_nil_iff.mpr fun e he => by have := hR e he; unfold actB; simp; omega, List.append_nil]
  apply List.filter_congr
  intro x hx
  have := hA x hx
  unfold actB keepJ
  simp [this]
end Go.Proofs.Ytmlplblhabdbpaa

namespace Go.Proofs.Ytmlplblhabdbpaa
open Go.Ab
variable {X : CallE} {ro : Nat}
set_option maxRecDepth 10000
set_option linter.unusedVariables false
set_option linter.unusedSimpArgs false
theorem slO_ext {H1 H2 : Hp} {v : Value} {sz n : Nat} {vs : List Value} (h : SlO H1 v sz n vs) (he : ∀ μ o, baseV v = some μ → H1 μ = some o → H2 μ = some o) : SlO H2 v sz n vs := by
  rcases h with h | ⟨ν, c, ws, rfl, h1, h2⟩
  · exact .inl h
  · exact .inr ⟨ν, c, ws, rfl, he _ _ rfl h1, h2⟩
/-- A predicate that hangs on some blocks alone. -/
structure OnB (B : Nat → Prop) (I : Hp → Prop) : Prop where
  fr : ∀ H H', I H → (∀ ν o, B ν → H ν = some o → H' ν = some o) → I H'
  pres : ∀ H ν, I H → B ν → ∃ o, H ν = some o
/-- What rows has in hand: the box of the row's number, the active edges, the crossings. -/
structure RS (H H1 : Hp) (B : Nat → Prop) (I : Hp → Prop) (va : Value) (L : List Ed) (vc : Value) (C : List Cr) (jb : Nat) (j : Int) : Prop where
  rw : Rw H H1 B I
  jr : H1 jb = some (.row 0 [.int .i64 j])
  jn : H jb = none
  a : SlO H1 va 5 L.length (L.flatMap encE)
  an : ∀ μ, baseV va = some μ → H μ = none
  aj : baseV va ≠ some jb
  c : SlO H1 vc 2 C.length (C.flatMap encC)
  cn : ∀ μ, baseV vc = some μ → H μ = none
  cj : baseV vc ≠ some jb
  ac : ∀ μ, baseV va = some μ → baseV vc ≠ some μ
section
variable {H H1 H2 : Hp} {B : Nat → Prop} {I I' : Hp → Prop} {va va' vc vc' : Value} {L L' : List Ed} {C C' : List Cr} {jb : Nat} {j j' : Int}
theorem RS.notB (h : RS H H1 B I va L vc C jb j) {μ : Nat} (e : H μ = none) : ¬ B μ := fun hB => by
  obtain ⟨o, e'⟩ := h.rw.pr μ hB
  rw [e] at e'; cases e'
theorem RS.old (h : RS H H1 B I va L vc C jb j) (hI : OnB B I) {μ : Nat} (e : H1 μ = none) : H μ = none := by
  cases e2 : H μ with
  | none => rfl
  | some o =>
    by_cases hB : B μ
    · obtain ⟨o', e'⟩ := hI.pres _ _ h.rw.iv hB
      rw [e] at e'; cases e'
    · rw [h.rw.fr μ o e2 hB] at e; cases e
theorem RS.ext (h : RS H H1 B I va L vc C jb j) (hI : OnB B I) (he : Ext H1 H2) : RS H H2 B I va L vc C jb j :=
  { h with rw := h.rw.ext hI.fr he, jr := he _ _ h.jr, a := slO_ext h.a fun μ o _ e => he μ o e, c := slO_ext h.c fun μ o _ e => he μ o e }
theorem RS.setA (h : RS H H1 B I va L vc C jb j) (hI : OnB B I) (hk : KeptBut H1 H2 va) (ha : SlO H2 va' 5 L'.length (L'.flatMap encE)) (hn : NewOr H1 va va') : RS H H2 B I va' L' vc C jb j where
  rw := h.rw.kept hI.fr hk h.an
  jr := hk _ _ h.jr h.aj
  jn := h.jn
  a := ha
  an := fun μ e => by
    rcases hn μ e with e | e
    · exact h.an μ e
    · exact h.old hI e
  aj := fun e => by
    rcases hn _ e with e | e
    · exact h.aj e
    · rw [h.jr] at e; cases e
  c := h.c.kept hk fun μ e e2 => h.ac μ e2 e
  cn := h.cn
  cj := h.cj
  ac := fun μ e e2 => by
    rcases hn _ e with e | e
    · exact h.ac μ e e2
    · obtain ⟨o, e3⟩ := h.c.base_some e2
      rw [e] at e3; cases e3
theorem RS.setC (h : RS H H1 B I va L vc C jb j) (hI : OnB B I) (hk : KeptBut H1 H2 vc) (hc : SlO H2 vc' 2 C'.length (C'.flatMap encC)) (hn : NewOr H1 vc vc') : RS H H2 B I va L vc' C' jb j where
  rw := h.rw.kept hI.fr hk h.cn
  jr := hk _ _ h.jr h.cj
  jn := h.jn
  c := hc
  cn := fun μ e => by
    rcases hn μ e with e | e
    · exact h.cn μ e
    · exact h.old hI e
  cj := fun e => by
    rcases hn _ e with e | e
    · exact h.cj e
    · rw [h.jr] at e; cases e
  a := h.a.kept hk fun μ e e2 => h.ac μ e e2
  an := h.an
  aj := h.aj
  ac := fun μ e2 e => by
    rcases hn _ e with e | e
    · exact h.ac μ e2 e
    · obtain ⟨o, e3⟩ := h.a.base_some e2
      rw [e] at e3; cases e3
theorem RS.call (h : RS H H1 B I va L vc C jb j) (hi : I' H2) (hf : ∀ ν o, ¬ B ν → H1 ν = some o → H2 ν = some o) : RS H H2 B I' va L vc C jb j :=
  { h with
    rw := ⟨fun ν o e b => hf ν o b (h.rw.fr ν o e b), hi, h.rw.pr⟩
    jr := hf _ _ (h.notB h.jn) h.jr
    a := slO_ext h.a fun μ o e e1 => hf μ o (h.notB (h.an μ e)) e1
    c := slO_ext h.c fun μ o e e1 => hf μ o (h.notB (h.cn μ e)) e1 }
theorem RS.newJ (h : RS H H1 B I va L vc C jb j) (hI : OnB B I) {a : Nat} (ha : ∀ ν o, H1 ν = some o → ν ≠ a) : RS H (H1.up a (.row 0 [.int .i64 j'])) B I va L vc C a j' := by
  have h2 := h.ext hI (ext_up (o := .row 0 [.int .i64 j']) ha)
  refine { h2 with jr := Hp.up_same, jn := ?_, aj := fun e => ?_, cj := fun e => ?_ }
  · refine h.old hI ?_
    cases e : H1 a with
    | none => rfl
    | some o => exact absurd rfl (ha a o e)
  · obtain ⟨o, e2⟩ := h.a.base_some e
    exact ha a o e2 rfl
  · obtain ⟨o, e2⟩ := h.c.base_some e
    exact ha a o e2 rfl
theorem RS.setJ (h : RS H H1 B I va L vc C jb j) (hI : OnB B I) : RS H (H1.up jb (.row 0 [.int .i64 j'])) B I va L vc C jb j' := by
  have hb := h.notB h.jn
  refine { h with rw := ⟨fun ν o e b => Hp.up_ne (fun e2 => by rw [e2, h.jn] at e; cases e) (h.rw.fr ν o e b), hI.fr _ _ h.rw.iv fun ν o b e => Hp.up_ne (fun e2 => hb (by rw [← e2]; exact b)) e, h.rw.pr⟩, jr := Hp.up_same, a := h.a.up h.aj, c := h.c.up h.cj }
theorem RS.edges (h : RS H H1 B I va L vc C jb j) {v : Value} {n : Nat} {l : List Ed} (hv : SlO H v 5 n (l.flatMap encE)) (hb : ∀ μ, baseV v = some μ → ¬ B μ) : SlO H1 v 5 n (l.flatMap encE) := slO_ext hv fun μ o e e1 => h.rw.fr μ o e1 (hb μ e)
end
theorem spans_split (SM : List Cr → List Cr) (l : List Ed) (j0 : Int) : ∀ (n i : Nat), i < n → ∃ rest, spansM SM l j0 n = spansM SM l j0 i ++ (spR (j0 + i) 0 (SM (crossM l (j0 + i))) ++ rest)
  | n + 1, i, h => by
    have e : spansM SM l j0 (n + 1) = spansM SM l j0 n ++ spR (j0 + n) 0 (SM (crossM l (j0 + n))) := by unfold spansM; rw [List.range_succ, List.flatMap_append]; simp
    by_cases h2 : i = n
    · subst h2
      exact ⟨[], by rw [e, List.append_nil]⟩
    · obtain ⟨rest, hr⟩ := spans_split SM l j0 n i (by omega)
      exact ⟨rest ++ spR (j0 + n) 0 (SM (crossM l (j0 + n))), by rw [e, hr]; simp only [List.append_assoc]⟩
theorem spans_succ (SM : List Cr → List Cr) (l : List Ed) (j0 : Int) (n : Nat) : spansM SM l j0 (n + 1) = spansM SM l j0 n ++ spR (j0 + n) 0 (SM (crossM l (j0 + n))) := by unfold spansM; rw [List.range_succ, List.flatMap_append]; simp
theorem sumB_perm {C D : List Cr} (h : C.Perm D) : sumB C = sumB D := by
  unfold sumB
  induction h with
  | nil => rfl
  | cons x _ ih => simp only [List.map_cons, List.sum_cons, ih]
  | swap x y l => simp only [List.map_cons, List.sum_cons]; omega
  | trans _ _ h1 h2 => exact h1.trans h2
end Go.Proofs.Ytmlplblhabdbpaa
