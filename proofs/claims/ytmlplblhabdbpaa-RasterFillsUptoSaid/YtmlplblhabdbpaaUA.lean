/- A part of the proof: rules for walking code over the evaluator, and what the functions that were walked come to: no condition but those that each theorem states. -/
import Derived.Test.YtmlplblhabdbpaaLgT
set_option linter.unusedVariables false
set_option linter.unusedSimpArgs false
namespace Go.Proofs.Ytmlplblhabdbpaa
open Go.Ab
variable {X : CallE} {ro : Nat}
set_option maxRecDepth 10000
set_option linter.unusedVariables false
set_option linter.unusedSimpArgs false
/-- Which functions are met by contracts of their own. -/
def OwnX (X : CallE) : Prop := ∀ f args s, f ≠ 44 → f ≠ 9 → f ≠ 120 → f ≠ 121 → X f args s = none
/-- An edge. -/
structure Ed where
  (x0 y0 x1 y1 by' : Int)
def encE (e : Ed) : List Value := [.int .i64 e.x0, .int .i64 e.y0, .int .i64 e.x1, .int .i64 e.y1, .int .i64 e.by']
theorem encE_len (e : Ed) : (encE e).length = 5 := rfl
def Ed.Ok (e : Ed) : Prop := (-16777216 ≤ e.x0 ∧ e.x0 ≤ 16777216) ∧ (-16777216 ≤ e.y0 ∧ e.y0 ≤ 16777216) ∧ (-16777216 ≤ e.x1 ∧ e.x1 ≤ 16777216) ∧ (-16777216 ≤ e.y1 ∧ e.y1 ≤ 16777216)
/-- The edges' order. -/
theorem cmpE_sp {s : St} {H : Hp} {a b : Ed} (hX : OwnX X) (hM : Models ro s H) (ha : a.Ok) (hb : b.Ok) : Sp X Try.prog ro 47 [.agg (encE a).toArray, .agg (encE b).toArray] s fun v H' => v = .int .i64 (a.y0 - b.y0) ∧ H' = H := by
  obtain ⟨_, a2, _⟩ := ha
  obtain ⟨_, b2, _⟩ := hb
  refine Sp.of_body (hX _ _ _ (by decide) (by decide) (by decide) (by decide)) Try.func47 rfl Try.ntmps47 (by simp) ?_
  refine WC.seq ?_
  refine WC.region ?_
  refine WO.cons (SV.boxM (by assumption) rfl (fun a0_0 s0_0 hf0_0 hne0_0 hn0_0 hM0_0 => ?_)) (by decide)
  refine WO.cons (SV.boxM (by assumption) rfl (fun a0_1 s0_1 hf0_1 hne0_1 hn0_1 hM0_1 => ?_)) (by decide)
  refine WO.cons (SV.assignV (by constructor) ?_) (by decide)
  refine WO.nil ?_
  have hh : ((H.up a0_0 (.row 0 (encE a))).up a0_1 (.row 0 (encE b))) a0_0 = some (.row 0 (encE a)) := Hp.up_ne (hne0_1 _ _ Hp.up_same) Hp.up_same
  refine WC.seq ?_
  refine WC.region ?_
  refine WO.cons (SV.fieldAddr rfl ?_) (by decide)
  refine WO.cons (SV.loadM (by assumption) rfl (by assumption) (by rfl) ?_) (by decide)
  refine WO.cons (SV.fieldAddr rfl ?_) (by decide)
  refine WO.cons (SV.loadM (by assumption) rfl (by exact Hp.up_same) (by rfl) ?_) (by decide)
  refine WO.cons (SV.sub64 rfl rfl (by omega) ?_) (by decide)
  refine WO.cons (SV.assignV (by constructor) ?_) (by decide)
  refine WO.nil ?_
  refine WC.ret ?_
  refine fin_one (e := .ret) (v := .int .i64 _) rfl trivial rfl (by omega) (hM0_1.sub (H' := H) fun ν o e => ?_) ⟨rfl, rfl⟩
  exact Hp.up_ne (hne0_1 _ _ (Hp.up_ne (hne0_0 _ _ e) e)) (Hp.up_ne (hne0_0 _ _ e) e)
end Go.Proofs.Ytmlplblhabdbpaa

namespace Go.Proofs.Ytmlplblhabdbpaa
open Go.Ab
variable {X : CallE} {ro : Nat}
set_option maxRecDepth 10000
set_option linter.unusedVariables false
set_option linter.unusedSimpArgs false

/-- swapRange: two parts change places. -/
theorem swr_sp {s : St} {H : Hp} {v c : Value} {n : Nat} {a b k : Int} {A X0 M Y B : List Ed} (hX : OwnX X) (hM : Models ro s H) (hv : SlO H v 5 n ((A ++ (X0 ++ (M ++ (Y ++ B)))).flatMap encE)) (hn : (A ++ (X0 ++ (M ++ (Y ++ B)))).length = n) (hbig : n ≤ 1000000)
    (ha : a = A.length) (hb : b = A.length + X0.length + M.length) (hk : k = X0.length) (hk2 : Y.length = X0.length) :
    Sp X Try.prog ro 102 [v, .int .i64 a, .int .i64 b, .int .i64 k, c] s fun r H' => r = .tuple #[] ∧ SlO H' v 5 n ((A ++ (Y ++ (M ++ (X0 ++ B)))).flatMap encE) ∧ KeptBut H H' v := by
  refine Sp.of_body (hX _ _ _ (by decide) (by decide) (by decide) (by decide)) Try.func102 rfl Try.ntmps102 (by simp) ?_
  refine WC.seq ?_
  refine WC.region ?_
  refine WO.cons (SV.assignV (by constructor) ?_) (by decide)
  refine WO.nil ?_
  refine WC.block ?_
  refine WC.loop (D := List Ed × List Ed × List Ed × List Ed) (fun x => [(0, v), (1, .int .i64 a), (2, .int .i64 b), (3, .int .i64 k), (10, .int .i64 (k - x.2.1.length))])
    (fun x s1 => s.next ≤ s1.next ∧ ∃ H1, Models ro s1 H1 ∧ SlO H1 v 5 n ((x.1 ++ (x.2.1 ++ (x.2.2.1 ++ (x.2.2.2 ++ B)))).flatMap encE) ∧ KeptBut H H1 v ∧ (x.1 ++ (x.2.1 ++ (x.2.2.1 ++ (x.2.2.2 ++ B)))).length = n ∧ (x.1.length : Int) = a + (k - x.2.1.length) ∧ (x.1.length : Int) + x.2.1.length + x.2.2.1.length = b + (k - x.2.1.length) ∧ x.2.2.2.length = x.2.1.length ∧ (x.2.1.length : Int) ≤ k ∧ x.1 ++ (x.2.2.2 ++ (x.2.2.1 ++ (x.2.1 ++ B))) = A ++ (Y ++ (M ++ (X0 ++ B))))
    (fun x => x.2.1.length) (A, X0, M, Y) ?_ ⟨by omega, H, hM, hv, KeptBut.refl', hn, by dsimp only; omega, by dsimp only; omega, hk2, by dsimp only; omega, rfl⟩ ?_
  · exact ⟨rfl, rfl, rfl, rfl, by show some (Value.int .i64 0) = some (Value.int .i64 (k - X0.length)); rw [hk, Int.sub_self], trivial⟩
  rintro ⟨A1, X1, M1, Y1⟩ g s1 ⟨hn1, H1, hM1, hv1, hk1, hl1, e1, e2, e3, e4, e5⟩
  dsimp only at hv1 hl1 e1 e2 e3 e4 e5 ⊢
  obtain ⟨i, hi⟩ : ∃ i, i = k - (X1.length : Int) := ⟨_, rfl⟩
  rw [← hi]
  refine WC.seq (WC.seq ?_)
  refine WC.region ?_
  refine WO.cons (SV.moveV (by constructor) ?_) (by decide)
  refine WO.cons (SV.moveV (by constructor) ?_) (by decide)
  refine WO.cons (SV.lss rfl rfl ?_) (by decide)
  refine WO.nil ?_
  refine WC.condD rfl (fun hlt hltb => ?_) (fun hlt hltb => ?_)
  · cases X1 with
    | nil => simp at hi e4; omega
    | cons x X1 =>
      cases Y1 with
      | nil => simp at e3
      | cons y Y1 =>
        simp only [List.length_cons] at e1 e2 e3 e4 hi
        have hl0 := hl1
        simp only [List.length_append, List.length_cons] at hl0
        obtain ⟨ν, cp, rfl⟩ := hv1.nonnil (by omega)
        have hjx : (A1 ++ (x :: X1 ++ (M1 ++ (y :: Y1 ++ B))))[A1.length]? = some x := by simp
        have hjy : (A1 ++ (x :: X1 ++ (M1 ++ (y :: Y1 ++ B))))[A1.length + (X1.length + 1 + M1.length)]? = some y := by
          rw [show A1 ++ (x :: X1 ++ (M1 ++ (y :: Y1 ++ B))) = (A1 ++ (x :: X1 ++ M1)) ++ y :: (Y1 ++ B) by simp]
          exact get_mid (by simp; omega)
        refine WC.skip (WC.seq (WC.block ?_))
        refine WC.draw [0, 1, 2, 3, 4, 5, 6, 7, 8, 9, 10, 11, 12, 13, 14, 15, 16, 17, 18, 19, 20, 21, 22, 23] (by kernel_rfl) (by kernel_rfl) (by kernel_rfl) ?_
        refine WD.cons (SV.moveV (by constructor) ?_) (by decide)
        refine WD.cons (SV.moveV (by constructor) ?_) (by decide)
        refine WD.cons (SV.moveV (by constructor) ?_) (by decide)
        refine WD.cons (SV.add64 rfl rfl (by omega) ?_) (by decide)
        refine WD.cons (SV.moveV (by constructor) ?_) (by decide)
        refine WD.cons (SV.moveV (by constructor) ?_) (by decide)
        refine WD.cons (SV.moveV (by constructor) ?_) (by decide)
        refine WD.cons (SV.add64 rfl rfl (by omega) ?_) (by decide)
        refine WD.cons (SV.moveV (by constructor) ?_) (by decide)
        refine WD.cons (SV.moveV (by constructor) ?_) (by decide)
        refine WD.cons (SV.moveV (by constructor) ?_) (by decide)
        refine WD.cons (SV.add64 rfl rfl (by omega) ?_) (by decide)
        refine WD.cons (SV.indexAddr rfl rfl (by omega) ?_) (by decide)
        refine WD.cons ?_ (by decide)
        refine SV.loadSl hM1 rfl hv1 encE_len hl1 hjy (by omega) ?_
        refine WD.cons (SV.moveV (by constructor) ?_) (by decide)
        refine WD.cons (SV.moveV (by constructor) ?_) (by decide)
        refine WD.cons (SV.moveV (by constructor) ?_) (by decide)
        refine WD.cons (SV.add64 rfl rfl (by omega) ?_) (by decide)
        refine WD.cons (SV.indexAddr rfl rfl (by omega) ?_) (by decide)
        refine WD.cons ?_ (by decide)
        refine SV.loadSl hM1 rfl hv1 encE_len hl1 hjx (by omega) ?_
        refine WD.cons (SV.indexAddr rfl rfl (by omega) ?_) (by decide)
        refine WD.cons0 ?_
        refine SV.storeSl (b := y) TAgg.sz hM1 rfl hv1 encE_len hl1 hjx (by omega) rfl rfl (fun s2 H2 hn2 hM2 hv2 hk2 => ?_)
        refine WD.cons (SV.indexAddr rfl rfl (by omega) ?_) (by decide)
        refine WD.cons0 ?_
        refine SV.storeSl (b := x) (a := y) (L := (A1 ++ (x :: X1 ++ (M1 ++ (y :: Y1 ++ B)))).set A1.length y) (j := A1.length + (X1.length + 1 + M1.length)) TAgg.sz hM2 rfl hv2 encE_len (by rw [List.length_set]; exact hl1) (by rw [List.getElem?_set_ne (by omega)]; exact hjy) (by omega) rfl rfl (fun s3 H3 hn3 hM3 hv3 hk3 => ?_)
        refine WD.nil ?_
        have e : ((A1 ++ (x :: X1 ++ (M1 ++ (y :: Y1 ++ B)))).set A1.length y).set (A1.length + (X1.length + 1 + M1.length)) x = (A1 ++ [y]) ++ (X1 ++ ((M1 ++ [x]) ++ (Y1 ++ B))) := by
          rw [show A1 ++ (x :: X1 ++ (M1 ++ (y :: Y1 ++ B))) = A1 ++ x :: ((X1 ++ M1) ++ y :: (Y1 ++ B)) by simp, swap_far rfl (by simp; omega)]; simp
        rw [e] at hv3
        refine WC.region ?_
        refine WO.cons (SV.moveV (by constructor) ?_) (by decide)
        refine WO.cons (SV.add64 rfl rfl (by omega) ?_) (by decide)
        refine WO.cons (SV.assignV (by constructor) ?_) (by decide)
        refine WO.nil ?_
        refine ⟨rfl, (A1 ++ [y], X1, M1 ++ [x], Y1), ⟨rfl, rfl, rfl, rfl, ?_, trivial⟩, ⟨by omega, H3, hM3, hv3, (hk1.trans' hk2).trans' hk3, by simp; omega, by simp; omega, by simp; omega, by simpa using e3, by dsimp only; omega, by rw [← e5]; simp⟩, by simp⟩
        show some (Value.int .i64 (i + 1)) = some (Value.int .i64 (k - X1.length))
        congr 2; omega
  · refine WC.exit ?_
    have hz : X1 = [] := List.length_eq_zero_iff.mp (by omega)
    have hz2 : Y1 = [] := List.length_eq_zero_iff.mp (by rw [hz] at e3; simpa using e3)
    subst hz hz2
    refine fin_none (e := .normal) rfl trivial hn1 hM1 ⟨rfl, ?_, hk1⟩
    rw [← e5]
    exact hv1
end Go.Proofs.Ytmlplblhabdbpaa

namespace Go.Proofs.Ytmlplblhabdbpaa
open Go.Ab
variable {X : CallE} {ro : Nat}
set_option maxRecDepth 10000
set_option linter.unusedVariables false
set_option linter.unusedSimpArgs false

/-- rotate: two neighbouring parts change places. -/
theorem rot_sp {s : St} {H : Hp} {v c : Value} {n : Nat} {a m b : Int} {A X0 Y0 B : List Ed} (hX : OwnX X) (hM : Models ro s H) (hv : SlO H v 5 n ((A ++ (X0 ++ (Y0 ++ B))).flatMap encE)) (hn : (A ++ (X0 ++ (Y0 ++ B))).length = n) (hbig : n ≤ 1000000)
    (ha : a = A.length) (hm : m = A.length + X0.length) (hb : b = A.length + X0.length + Y0.length) (hx0 : 0 < X0.length) (hy0 : 0 < Y0.length) :
    Sp X Try.prog ro 100 [v, .int .i64 a, .int .i64 m, .int .i64 b, c] s fun r H' => r = .tuple #[] ∧ SlO H' v 5 n ((A ++ (Y0 ++ (X0 ++ B))).flatMap encE) ∧ KeptBut H H' v := by
  have hn0 := hn
  simp only [List.length_append] at hn0
  refine Sp.of_body (hX _ _ _ (by decide) (by decide) (by decide) (by decide)) Try.func100 rfl Try.ntmps100 (by simp) ?_
  refine WC.seq ?_
  refine WC.region ?_
  refine WO.cons (SV.moveV (by constructor) ?_) (by decide)
  refine WO.cons (SV.moveV (by constructor) ?_) (by decide)
  refine WO.cons (SV.sub64 rfl rfl (by omega) ?_) (by decide)
  refine WO.cons (SV.assignV (by constructor) ?_) (by decide)
  refine WO.nil ?_
  refine WC.seq ?_
  refine WC.region ?_
  refine WO.cons (SV.moveV (by constructor) ?_) (by decide)
  refine WO.cons (SV.moveV (by constructor) ?_) (by decide)
  refine WO.cons (SV.sub64 rfl rfl (by omega) ?_) (by decide)
  refine WO.cons (SV.assignV (by constructor) ?_) (by decide)
  refine WO.nil ?_
  refine WC.seq (WC.block ?_)
  refine WC.loop (D := List Ed × List Ed × List Ed × List Ed) (fun x => [(0, v), (2, .int .i64 m), (4, c), (10, .int .i64 x.2.1.length), (11, .int .i64 x.2.2.1.length)])
    (fun x s1 => s.next ≤ s1.next ∧ ∃ H1, Models ro s1 H1 ∧ SlO H1 v 5 n ((x.1 ++ (x.2.1 ++ (x.2.2.1 ++ x.2.2.2))).flatMap encE) ∧ KeptBut H H1 v ∧ (x.1 ++ (x.2.1 ++ (x.2.2.1 ++ x.2.2.2))).length = n ∧ (x.1.length : Int) + x.2.1.length = m ∧ 0 < x.2.1.length ∧ 0 < x.2.2.1.length ∧ x.1 ++ (x.2.2.1 ++ (x.2.1 ++ x.2.2.2)) = A ++ (Y0 ++ (X0 ++ B)))
    (fun x => x.2.1.length + x.2.2.1.length) (A, X0, Y0, B) ?_ ⟨by omega, H, hM, hv, KeptBut.refl', hn, by dsimp only; omega, hx0, hy0, rfl⟩ ?_
  · refine ⟨rfl, rfl, rfl, ?_, ?_, trivial⟩
    · show some (Value.int .i64 (m - a)) = some (Value.int .i64 X0.length); congr 2; omega
    · show some (Value.int .i64 (b - m)) = some (Value.int .i64 Y0.length); congr 2; omega
  rintro ⟨A1, X1, Y1, B1⟩ g s1 ⟨hn1, H1, hM1, hv1, hk1, hl1, e1, e2, e3, e5⟩
  dsimp only at hv1 hl1 e1 e2 e3 e5 ⊢
  have hl0 := hl1
  simp only [List.length_append] at hl0
  refine WC.seq (WC.seq ?_)
  refine WC.region ?_
  refine WO.cons (SV.moveV (by constructor) ?_) (by decide)
  refine WO.cons (SV.moveV (by constructor) ?_) (by decide)
  refine WO.cons (SV.neqI rfl rfl ?_) (by decide)
  refine WO.nil ?_
  refine WC.condD rfl (fun hne hneb => ?_) (fun hne hneb => ?_)
  · refine WC.skip (WC.block (WC.seq ?_))
    refine WC.region ?_
    refine WO.cons (SV.moveV (by constructor) ?_) (by decide)
    refine WO.cons (SV.moveV (by constructor) ?_) (by decide)
    refine WO.cons (SV.gtr rfl rfl ?_) (by decide)
    refine WO.nil ?_
    refine WC.condD rfl (fun hgt hgtb => ?_) (fun hgt hgtb => ?_)
    · obtain ⟨X2, X3, rfl, hx2⟩ := cut_at X1 (n := Y1.length) (by omega)
      simp only [List.length_append] at e1 e2 hgt hl0 hne
      rw [List.append_assoc] at hv1 hl1
      obtain ⟨i, hi⟩ : ∃ i, i = ((X2 ++ X3).length : Int) := ⟨_, rfl⟩
      rw [← hi]
      rw [List.length_append] at hi
      refine WC.seq ?_
      refine WC.region ?_
      refine WO.cons (SV.move ?_) (by decide)
      refine WO.cons (SV.moveV (by constructor) ?_) (by decide)
      refine WO.cons (SV.moveV (by constructor) ?_) (by decide)
      refine WO.cons (SV.sub64 rfl rfl (by omega) ?_) (by decide)
      refine WO.cons (SV.moveV (by constructor) ?_) (by decide)
      refine WO.cons (SV.moveV (by constructor) ?_) (by decide)
      refine WO.cons (SV.move ?_) (by decide)
      refine WO.cons ?_ (by decide)
      refine SV.callM rfl rfl (swr_sp (v := v) (c := c) hX hM1 hv1 hl1 hbig (by omega) (by omega) (by omega) (by omega)) ?_
      rintro r s2 H2 hn2 hM2 ⟨rfl, hv2, hk2⟩
      refine WO.nil ?_
      refine WC.region ?_
      refine WO.cons (SV.moveV (by constructor) ?_) (by decide)
      refine WO.cons (SV.moveV (by constructor) ?_) (by decide)
      refine WO.cons (SV.sub64 rfl rfl (by omega) ?_) (by decide)
      refine WO.cons (SV.assignV (by constructor) ?_) (by decide)
      refine WO.nil ?_
      refine ⟨rfl, (A1 ++ Y1, X3, X2, B1), ⟨rfl, rfl, rfl, ?_, ?_, trivial⟩, ⟨by omega, H2, hM2, by simpa only [List.append_assoc] using hv2, hk1.trans' hk2, by simp only [List.length_append]; omega, by simp only [List.length_append]; omega, by dsimp only; omega, by dsimp only; omega, by rw [← e5]; simp only [List.append_assoc]⟩, by simp only [List.length_append]; omega⟩
      · show some (Value.int .i64 (i - Y1.length)) = some (Value.int .i64 X3.length); congr 2; omega
      · show some (Value.int .i64 Y1.length) = some (Value.int .i64 X2.length); congr 2; omega
    · obtain ⟨Y2, Y3, rfl, hy2⟩ := cut_at Y1 (n := Y1.length - X1.length) (by omega)
      simp only [List.length_append] at e3 hgt hl0 hne hy2
      rw [List.append_assoc] at hv1 hl1
      obtain ⟨j, hj⟩ : ∃ i, i = ((Y2 ++ Y3).length : Int) := ⟨_, rfl⟩
      rw [← hj]
      rw [List.length_append] at hj
      refine WC.seq ?_
      refine WC.region ?_
      refine WO.cons (SV.move ?_) (by decide)
      refine WO.cons (SV.moveV (by constructor) ?_) (by decide)
      refine WO.cons (SV.moveV (by constructor) ?_) (by decide)
      refine WO.cons (SV.sub64 rfl rfl (by omega) ?_) (by decide)
      refine WO.cons (SV.moveV (by constructor) ?_) (by decide)
      refine WO.cons (SV.moveV (by constructor) ?_) (by decide)
      refine WO.cons (SV.add64 rfl rfl (by omega) ?_) (by decide)
      refine WO.cons (SV.moveV (by constructor) ?_) (by decide)
      refine WO.cons (SV.sub64 rfl rfl (by omega) ?_) (by decide)
      refine WO.cons (SV.moveV (by constructor) ?_) (by decide)
      refine WO.cons (SV.move ?_) (by decide)
      refine WO.cons ?_ (by decide)
      refine SV.callM rfl rfl (swr_sp (v := v) (c := c) hX hM1 hv1 hl1 hbig (by omega) (by omega) (by omega) (by omega)) ?_
      rintro r s2 H2 hn2 hM2 ⟨rfl, hv2, hk2⟩
      refine WO.nil ?_
      refine WC.region ?_
      refine WO.cons (SV.moveV (by constructor) ?_) (by decide)
      refine WO.cons (SV.moveV (by constructor) ?_) (by decide)
      refine WO.cons (SV.sub64 rfl rfl (by omega) ?_) (by decide)
      refine WO.cons (SV.assignV (by constructor) ?_) (by decide)
      refine WO.nil ?_
      refine ⟨rfl, (A1, Y3, Y2, X1 ++ B1), ⟨rfl, rfl, rfl, ?_, ?_, trivial⟩, ⟨by omega, H2, hM2, hv2, hk1.trans' hk2, by simp only [List.length_append]; omega, by dsimp only; omega, by dsimp only; omega, by dsimp only; omega, by rw [← e5]; simp only [List.append_assoc]⟩, by simp only [List.length_append]; omega⟩
      · show some (Value.int .i64 X1.length) = some (Value.int .i64 Y3.length); congr 2; omega
      · show some (Value.int .i64 (j - X1.length)) = some (Value.int .i64 Y2.length); congr 2; omega
  · have hv1' : SlO H1 v 5 n ((A1 ++ (X1 ++ ([] ++ (Y1 ++ B1)))).flatMap encE) := hv1
    refine WC.exit ?_
    refine WC.region ?_
    refine WO.cons (SV.move ?_) (by decide)
    refine WO.cons (SV.moveV (by constructor) ?_) (by decide)
    refine WO.cons (SV.moveV (by constructor) ?_) (by decide)
    refine WO.cons (SV.sub64 rfl rfl (by omega) ?_) (by decide)
    refine WO.cons (SV.moveV (by constructor) ?_) (by decide)
    refine WO.cons (SV.moveV (by constructor) ?_) (by decide)
    refine WO.cons (SV.move ?_) (by decide)
    refine WO.cons ?_ (by decide)
    refine SV.callM rfl rfl (swr_sp (v := v) (c := c) hX hM1 hv1' hl1 hbig (by omega) (by simp only [List.length_nil]; omega) (by omega) (by omega)) ?_
    rintro r s2 H2 hn2 hM2 ⟨rfl, hv2, hk2⟩
    refine WO.nil ?_
    refine fin_none (e := .normal) rfl trivial (by omega) hM2 ⟨rfl, ?_, hk1.trans' hk2⟩
    rw [← e5]
    exact hv2
end Go.Proofs.Ytmlplblhabdbpaa

namespace Go.Proofs.Ytmlplblhabdbpaa
open Go.Ab
variable {X : CallE} {ro : Nat}
set_option maxRecDepth 10000
set_option linter.unusedVariables false
set_option linter.unusedSimpArgs false

/-- The comparison, as it is handed on. -/
def cmpV : Value := .func (.func 47) #[] #[]
/-- insertionSort: a part is put in order. -/
theorem insSort_sp {s : St} {H : Hp} {v : Value} {n : Nat} {a b : Int} {A Q B : List Ed} (hX : OwnX X) (hM : Models ro s H) (hv : SlO H v 5 n ((A ++ (Q ++ B)).flatMap encE)) (hn : (A ++ (Q ++ B)).length = n) (hbig : n ≤ 1000000)
    (hok : ∀ e ∈ Q, e.Ok) (ha : a = A.length) (hb : b = A.length + Q.length) :
    Sp X Try.prog ro 88 [v, .int .i64 a, .int .i64 b, cmpV] s fun r H' => r = .tuple #[] ∧ ∃ Q', SlO H' v 5 n ((A ++ (Q' ++ B)).flatMap encE) ∧ KeptBut H H' v ∧ Q'.Perm Q ∧ Srt Ed.y0 Q' := by
  have hn0 := hn
  simp only [List.length_append] at hn0
  refine Sp.of_body (hX _ _ _ (by decide) (by decide) (by decide) (by decide)) Try.func88 rfl Try.ntmps88 (by simp) ?_
  refine WC.seq ?_
  refine WC.region ?_
  refine WO.cons (SV.moveV (by constructor) ?_) (by decide)
  refine WO.cons (SV.add64 rfl rfl (by omega) ?_) (by decide)
  refine WO.cons (SV.assignV (by constructor) ?_) (by decide)
  refine WO.nil ?_
  refine WC.block ?_
  refine WC.loop (D := Int × List Ed × List Ed) (fun x => [(0, v), (1, .int .i64 a), (2, .int .i64 b), (3, cmpV), (8, .int .i64 x.1)])
    (fun x s1 => s.next ≤ s1.next ∧ ∃ H1, Models ro s1 H1 ∧ SlO H1 v 5 n ((A ++ (x.2.1 ++ (x.2.2 ++ B))).flatMap encE) ∧ KeptBut H H1 v ∧ (A ++ (x.2.1 ++ (x.2.2 ++ B))).length = n ∧ a + 1 ≤ x.1 ∧ x.1 ≤ b + 1 ∧ (x.1 = A.length + x.2.1.length ∨ (b ≤ x.1 ∧ x.2.2 = [])) ∧ Srt Ed.y0 x.2.1 ∧ (x.2.1 ++ x.2.2).Perm Q)
    (fun x => x.2.2.length) (a + 1, Q.take 1, Q.drop 1) ?_ ⟨by omega, H, hM, ?_, KeptBut.refl', ?_, by dsimp only; omega, by dsimp only; omega, ?_, ?_, ?_⟩ ?_
  · exact ⟨rfl, rfl, rfl, rfl, rfl, trivial⟩
  · dsimp only; rw [← List.append_assoc (Q.take 1), List.take_append_drop]; exact hv
  · dsimp only; rw [← List.append_assoc (Q.take 1), List.take_append_drop]; exact hn
  · dsimp only
    cases Q with
    | nil => right; exact ⟨by simp at hb; omega, rfl⟩
    | cons x Q => left; simp; omega
  · dsimp only
    cases Q with
    | nil => exact Srt.nil
    | cons x Q => exact Srt.one x
  · dsimp only; rw [List.take_append_drop]
  rintro ⟨i, Z, Y⟩ g s1 ⟨hn1, H1, hM1, hv1, hk1, hl1, e1, e2, e3, e4, e5⟩
  dsimp only at hv1 hl1 e1 e2 e3 e4 e5 ⊢
  have hl0 := hl1
  simp only [List.length_append] at hl0
  have hlQ := e5.length_eq
  simp only [List.length_append] at hlQ
  have hokZ : ∀ e ∈ Z ++ Y, e.Ok := fun e he => hok e (e5.mem_iff.mp he)
  refine WC.seq (WC.seq ?_)
  refine WC.region ?_
  refine WO.cons (SV.moveV (by constructor) ?_) (by decide)
  refine WO.cons (SV.moveV (by constructor) ?_) (by decide)
  refine WO.cons (SV.lss rfl rfl ?_) (by decide)
  refine WO.nil ?_
  refine WC.condD rfl (fun hlt hltb => ?_) (fun hlt hltb => ?_)
  · rcases e3 with e3 | ⟨e3, _⟩
    rotate_left
    · omega
    cases Y with
    | nil => simp at hlQ; omega
    | cons y Y =>
      have hy := hokZ y (by simp)
      simp only [List.length_cons] at hlQ hl0
      refine WC.skip (WC.seq (WC.block (WC.seq ?_)))
      refine WC.region ?_
      refine WO.cons (SV.moveV (by constructor) ?_) (by decide)
      refine WO.cons (SV.assignV (by constructor) ?_) (by decide)
      refine WO.nil ?_
      refine WC.block ?_
      refine WC.loop (D := Int × List Ed × List Ed) (fun x => [(0, v), (1, .int .i64 a), (2, .int .i64 b), (3, cmpV), (8, .int .i64 i), (9, .int .i64 x.1)])
        (fun x s2 => s.next ≤ s2.next ∧ ∃ H2, Models ro s2 H2 ∧ SlO H2 v 5 n ((A ++ (x.2.1 ++ (y :: (x.2.2 ++ (Y ++ B))))).flatMap encE) ∧ KeptBut H H2 v ∧ x.1 = A.length + x.2.1.length ∧ x.2.1 ++ x.2.2 = Z ∧ (∀ z, x.2.2.head? = some z → y.y0 ≤ z.y0))
        (fun x => x.2.1.length) (i, Z, []) ?_ ⟨hn1, H1, hM1, hv1, hk1, e3, List.append_nil _, fun z h => by cases h⟩ ?_
      · exact ⟨rfl, rfl, rfl, rfl, rfl, rfl, trivial⟩
      rintro ⟨j, Z1, Z2⟩ g s2 ⟨hn2, H2, hM2, hv2, hk2, f1, f2, f3⟩
      dsimp only at hv2 f1 f2 f3 ⊢
      subst f2
      simp only [List.length_append] at hlQ hl0 e3
      have hl2 : (A ++ (Z1 ++ (y :: (Z2 ++ (Y ++ B))))).length = n := by simp only [List.length_append, List.length_cons]; omega
      obtain ⟨ν, cp, rfl⟩ := hv2.nonnil (by omega)
      have hjy : (A ++ (Z1 ++ (y :: (Z2 ++ (Y ++ B)))))[A.length + Z1.length]? = some y := by
        rw [← List.append_assoc]; exact get_mid (by simp)
      have fin : ∀ (hlast : ∀ z, Z1.getLast? = some z → z.y0 ≤ y.y0), Srt Ed.y0 (Z1 ++ y :: Z2) := fun hlast => e4.ins hlast f3
      rcases List.eq_nil_or_concat Z1 with rfl | ⟨Z3, z, rfl⟩
      · have hd : decide (a < j) = false := decide_eq_false (by simp at f1; omega)
        refine WC.seq (WC.seq ?_)
        refine WC.draw [0, 1, 2, 3, 4, 5, 6, 7, 8, 9, 10, 11, 12, 13, 14, 15, 16] (by kernel_rfl) (by kernel_rfl) (by kernel_rfl) ?_
        refine WD.cons (SV.moveV (by constructor) ?_) (by decide)
        refine WD.cons (SV.moveV (by constructor) ?_) (by decide)
        refine WD.cons (SV.gtr rfl rfl ?_) (by decide)
        refine WD.cons (SV.moveV (by constructor) ?_) (by decide)
        refine WD.guardN rfl rfl rfl (by assumption) ?_ (by decide)
        all_goals (refine WD.guardN rfl rfl rfl (by assumption) ?_ (by decide))
        all_goals (refine WD.guardN rfl rfl rfl (by assumption) ?_ (by decide))
        all_goals (refine WD.guardN rfl rfl rfl (by assumption) ?_ (by decide))
        all_goals (refine WD.guardN rfl rfl rfl (by assumption) ?_ (by decide))
        refine WD.guardN rfl rfl rfl (by assumption) ?_ (by decide)
        all_goals (refine WD.guardN rfl rfl rfl (by assumption) ?_ (by decide))
        all_goals (refine WD.guardN rfl rfl rfl (by assumption) ?_ (by decide))
        all_goals (refine WD.guardN rfl rfl rfl (by assumption) ?_ (by decide))
        all_goals (refine WD.guardN rfl rfl rfl (by assumption) ?_ (by decide))
        refine WD.guardN rfl rfl rfl (by assumption) ?_ (by decide)
        refine WD.guardN rfl rfl rfl (by assumption) ?_ (by decide)
        all_goals (refine WD.cons (SV.pickFV rfl (by assumption) (by constructor) ?_) (by decide))
        all_goals refine WD.nil ?_
        refine WC.condF rfl (by rfl) (WC.exit ?_)
        refine WC.region ?_
        refine WO.cons (SV.moveV (by constructor) ?_) (by decide)
        refine WO.cons (SV.add64 rfl rfl (by omega) ?_) (by decide)
        refine WO.cons (SV.assignV (by constructor) ?_) (by decide)
        refine WO.nil ?_
        refine ⟨rfl, (i + 1, y :: Z2, Y), ⟨rfl, rfl, rfl, rfl, rfl, trivial⟩, ⟨by omega, H2, hM2, by simpa using hv2, hk2, by simpa using hl2, by omega, by omega, .inl (by simp at hlQ hl0 e3 ⊢; omega), fin (fun z h => by cases h), ?_⟩, by simp⟩
        exact (show (y :: Z2 ++ Y).Perm ([] ++ Z2 ++ y :: Y) from by simpa using List.perm_middle.symm).trans e5
      · simp only [List.concat_eq_append] at *
        simp only [List.length_append, List.length_cons, List.length_nil] at hlQ hl0 e3 f1 hl2
        have hd : decide (a < j) = true := decide_eq_true (by omega)
        have hjz : (A ++ (Z3 ++ [z] ++ (y :: (Z2 ++ (Y ++ B)))))[A.length + Z3.length]? = some z := by
          rw [show A ++ (Z3 ++ [z] ++ (y :: (Z2 ++ (Y ++ B)))) = (A ++ Z3) ++ z :: (y :: (Z2 ++ (Y ++ B))) by simp]; exact get_mid (by simp)
        have hlen : (A ++ (Z3 ++ [z] ++ (y :: (Z2 ++ (Y ++ B))))).length = n := by simp; omega
        have hzok := hokZ z (by simp)
        simp only [List.length_append, List.length_singleton] at hjy
        refine WC.seq (WC.seq ?_)
        refine WC.draw [0, 1, 2, 3, 4, 5, 6, 7, 8, 9, 10, 11, 12, 13, 14, 15, 16] (by kernel_rfl) (by kernel_rfl) (by kernel_rfl) ?_
        refine WD.cons (SV.moveV (by constructor) ?_) (by decide)
        refine WD.cons (SV.moveV (by constructor) ?_) (by decide)
        refine WD.cons (SV.gtr rfl rfl ?_) (by decide)
        refine WD.cons (SV.moveV (by constructor) ?_) (by decide)
        refine WD.guardY rfl rfl rfl (by assumption) (SV.moveV (by constructor) ?_) (by decide)
        all_goals (refine WD.guardY rfl rfl rfl (by assumption) (SV.moveV (by constructor) ?_) (by decide))
        all_goals (refine WD.guardY rfl rfl rfl (by assumption) (SV.moveV (by constructor) ?_) (by decide))
        all_goals (refine WD.guardY rfl rfl rfl (by assumption) (SV.indexAddr rfl rfl (by omega) ?_) (by decide))
        all_goals (refine WD.guardY rfl rfl rfl (by assumption) ?_ (by decide))
        refine SV.loadSl hM2 rfl hv2 encE_len hlen hjy (by omega) ?_
        refine WD.guardY rfl rfl rfl (by assumption) (SV.moveV (by constructor) ?_) (by decide)
        all_goals (refine WD.guardY rfl rfl rfl (by assumption) (SV.moveV (by constructor) ?_) (by decide))
        all_goals (refine WD.guardY rfl rfl rfl (by assumption) (SV.sub64 rfl rfl (by omega) ?_) (by decide))
        all_goals (refine WD.guardY rfl rfl rfl (by assumption) (SV.indexAddr rfl rfl (by omega) ?_) (by decide))
        all_goals (refine WD.guardY rfl rfl rfl (by assumption) ?_ (by decide))
        refine SV.loadSl hM2 rfl hv2 encE_len hlen hjz (by omega) ?_
        refine WD.guardY rfl rfl rfl (by assumption) ?_ (by decide)
        refine SV.callM rfl rfl (cmpE_sp hX hM2 hy hzok) ?_
        rintro r s3 H3 hn3 hM3 ⟨rfl, rfl⟩
        refine WD.guardY rfl rfl rfl (by assumption) (SV.lss rfl rfl ?_) (by decide)
        all_goals (refine WD.cons (SV.pickTV rfl (by assumption) (by constructor) ?_) (by decide))
        all_goals refine WD.nil ?_
        refine WC.condD rfl (fun hlt2 hlt2b => ?_) (fun hlt2 hlt2b => ?_)
        · refine WC.skip (WC.seq (WC.block ?_))
          refine WC.draw [0, 1, 2, 3, 4, 5, 6, 7, 8, 9, 10, 11, 12, 13, 14, 15, 16, 17] (by kernel_rfl) (by kernel_rfl) (by kernel_rfl) ?_
          refine WD.cons (SV.moveV (by constructor) ?_) (by decide)
          refine WD.cons (SV.moveV (by constructor) ?_) (by decide)
          refine WD.cons (SV.moveV (by constructor) ?_) (by decide)
          refine WD.cons (SV.moveV (by constructor) ?_) (by decide)
          refine WD.cons (SV.sub64 rfl rfl (by omega) ?_) (by decide)
          refine WD.cons (SV.moveV (by constructor) ?_) (by decide)
          refine WD.cons (SV.moveV (by constructor) ?_) (by decide)
          refine WD.cons (SV.sub64 rfl rfl (by omega) ?_) (by decide)
          refine WD.cons (SV.indexAddr rfl rfl (by omega) ?_) (by decide)
          refine WD.cons ?_ (by decide)
          refine SV.loadSl hM3 rfl hv2 encE_len hlen hjz (by omega) ?_
          refine WD.cons (SV.moveV (by constructor) ?_) (by decide)
          refine WD.cons (SV.moveV (by constructor) ?_) (by decide)
          refine WD.cons (SV.indexAddr rfl rfl (by omega) ?_) (by decide)
          refine WD.cons ?_ (by decide)
          refine SV.loadSl hM3 rfl hv2 encE_len hlen hjy (by omega) ?_
          refine WD.cons (SV.indexAddr rfl rfl (by omega) ?_) (by decide)
          refine WD.cons0 ?_
          refine SV.storeSl (b := z) TAgg.sz hM3 rfl hv2 encE_len hlen hjy (by omega) rfl rfl (fun s4 H4 hn4 hM4 hv4 hk4 => ?_)
          refine WD.cons (SV.indexAddr rfl rfl (by omega) ?_) (by decide)
          refine WD.cons0 ?_
          refine SV.storeSl (b := y) (a := z) (L := (A ++ (Z3 ++ [z] ++ (y :: (Z2 ++ (Y ++ B))))).set (A.length + (Z3.length + (0 + 1))) z) (j := A.length + Z3.length) TAgg.sz hM4 rfl hv4 encE_len (by rw [List.length_set]; exact hlen) (by rw [List.getElem?_set_ne (by omega)]; exact hjz) (by omega) rfl rfl (fun s5 H5 hn5 hM5 hv5 hk5 => ?_)
          refine WD.nil ?_
          have e : ((A ++ (Z3 ++ [z] ++ (y :: (Z2 ++ (Y ++ B))))).set (A.length + (Z3.length + (0 + 1))) z).set (A.length + Z3.length) y = A ++ (Z3 ++ (y :: ((z :: Z2) ++ (Y ++ B)))) := by
            rw [show A ++ (Z3 ++ [z] ++ (y :: (Z2 ++ (Y ++ B)))) = (A ++ Z3) ++ z :: y :: (Z2 ++ (Y ++ B)) by simp, show A.length + (Z3.length + (0 + 1)) = A.length + Z3.length + 1 by omega, swap_next' (by simp)]; simp
          rw [e] at hv5
          refine WC.region ?_
          refine WO.cons (SV.moveV (by constructor) ?_) (by decide)
          refine WO.cons (SV.sub64 rfl rfl (by omega) ?_) (by decide)
          refine WO.cons (SV.assignV (by constructor) ?_) (by decide)
          refine WO.nil ?_
          refine ⟨rfl, (j - 1, Z3, z :: Z2), ⟨rfl, rfl, rfl, rfl, rfl, rfl, trivial⟩, ⟨by omega, H5, hM5, hv5, (hk2.trans' hk4).trans' hk5, by dsimp only; omega, by simp, fun w hw => by cases hw; omega⟩, by simp⟩
        · refine WC.exit ?_
          refine WC.region ?_
          refine WO.cons (SV.moveV (by constructor) ?_) (by decide)
          refine WO.cons (SV.add64 rfl rfl (by omega) ?_) (by decide)
          refine WO.cons (SV.assignV (by constructor) ?_) (by decide)
          refine WO.nil ?_
          refine ⟨rfl, (i + 1, Z3 ++ [z] ++ y :: Z2, Y), ⟨rfl, rfl, rfl, rfl, rfl, trivial⟩, ⟨by omega, _, hM3, by simpa using hv2, hk2, by simp; omega, by omega, by omega, .inl (by simp; omega), fin (fun w hw => by simp at hw; subst hw; omega), ?_⟩, by simp⟩
          exact (show (Z3 ++ [z] ++ y :: Z2 ++ Y).Perm (Z3 ++ [z] ++ Z2 ++ y :: Y) from by
            rw [List.append_assoc (Z3 ++ [z]), List.append_assoc (Z3 ++ [z])]; exact List.Perm.append_left _ (by simpa using List.perm_middle.symm)).trans e5
  · refine WC.exit ?_
    have hY : Y = [] := by
      rcases e3 with e3 | ⟨_, e3⟩
      · exact List.length_eq_zero_iff.mp (by omega)
      · exact e3
    subst hY
    refine fin_none (e := .normal) rfl trivial (by omega) hM1 ⟨rfl, Z, hv1, hk1, by simpa using e5, e4⟩
end Go.Proofs.Ytmlplblhabdbpaa
