/- A part of the proof: rules for walking code over the evaluator, and what the functions that were walked come to: no condition but those that each theorem states. -/
import Derived.Test.YthkklpegjcnjoaaTD
import Derived.Test.YthkklpegjcnjoaaPA
import Derived.Test.YthkklpegjcnjoaaPB
set_option linter.unusedVariables false
set_option linter.unusedSimpArgs false
namespace Go.Proofs.Ythkklpegjcnjoaa
open Go.Ab
variable {X : CallE} {ro : Nat}
set_option maxRecDepth 10000
set_option linter.unusedVariables false
set_option linter.unusedSimpArgs false

theorem SlO.ofRow {H : Hp} {ν n : Nat} {sz : Nat} {ws : List Value} (h : H ν = some (.row sz ws)) (hl : ws.length = n * sz) : SlO H (.slice (some ⟨ν, 0, none⟩) n n) sz n ws :=
  .inr ⟨ν, n, ws, rfl, h, hl, Nat.le_refl _, by rw [← hl, List.take_length]⟩
theorem slo_int {H : Hp} {v : Value} {n : Nat} {L : List Int} (h : SlO H v 1 n (L.map (.int .i64))) (hn : L.length = n) {i : Int} (h0 : 0 ≤ i) (h1 : i < n) :
    ∃ ν c ws, v = .slice (some ⟨ν, 0, none⟩) n c ∧ H ν = some (.row 1 ws) ∧ ws[0 + i.toNat * 1]? = some (.int .i64 (rd L i)) := by
  rcases h with ⟨_, rfl, _⟩ | ⟨ν, c, ws, rfl, h2, h3, h4, h5⟩
  · omega
  · refine ⟨ν, c, ws, rfl, h2, ?_⟩
    have hg := ints_get0 (L := L) h0 (by omega)
    rw [h5, List.getElem?_take] at hg
    split at hg
    · exact hg
    · cases hg

theorem same_sp {s : St} {H : Hp} {n : Nat} {L : List Int} {v w : Value} (hX : OwnX X) (hM : Models ro s H) (hv : SlO H v 1 n (L.map (.int .i64))) (hw : SlO H w 1 n (L.map (.int .i64))) (hL : L.length = n) (hn : n ≤ 17592186044416) :
    Sp X Try.prog ro 15 [v, w] s fun u H' => u = .bool true ∧ H' = H := by
  refine Sp.of_body (hX _ _ _ (by decide) (by decide) (by decide) (by decide)) Try.func15 rfl Try.ntmps15 (by simp) ?_
  refine WC.seq (WC.region ?_)
  refine asO ?_
  refine WO.nil ?_
  refine WC.seq (WC.seq (WC.region ?_))
  refine cO (SV.move ?_)
  refine cO (SV.lenO rfl rfl (by assumption) ?_)
  refine cO (SV.move ?_)
  refine cO (SV.lenO rfl rfl (by assumption) ?_)
  refine cO (SV.neqI rfl rfl ?_)
  refine WO.nil ?_
  have hnn : decide ((n : Int) ≠ (n : Int)) = false := by simp
  refine WC.condF rfl (by assumption) (WC.skip (WC.seq (WC.seq ?_)))
  refine WC.region ?_
  refine cO (SV.move ?_)
  refine cO (SV.lenO rfl rfl (by assumption) ?_)
  refine mvO ?_
  refine WO.nil ?_
  refine WC.block ?_
  refine WC.loop (D := Nat) (fun x => [(0, v), (1, w), (11, v), (12, .int .i64 n), (13, .int .i64 x)])
    (fun x s1 => s.next ≤ s1.next ∧ Models ro s1 H ∧ x ≤ n) (fun x => n - x) 0 ?_ ⟨by omega, hM, by omega⟩ ?_
  · exact ⟨rfl, rfl, rfl, rfl, rfl, trivial⟩
  rintro k g s1 ⟨hn1, hM1, hk⟩
  refine WC.seq (WC.region ?_)
  refine cO (SV.lss rfl rfl ?_)
  refine WO.nil ?_
  refine WC.seq ?_
  refine WC.condD rfl (fun hlt hltb => ?_) (fun hlt hltb => ?_)
  · obtain ⟨ν, c, ws, rfl, hν, hg⟩ := slo_int hv hL (i := k) (by omega) (by omega)
    obtain ⟨ν2, c2, ws2, rfl, hν2, hg2⟩ := slo_int hw hL (i := k) (by omega) (by omega)
    have hne : decide (rd L k ≠ rd L k) = false := by simp
    refine WC.skip (WC.seq (WC.block (WC.seq (WC.region ?_))))
    refine mvO ?_
    refine asO ?_
    refine WO.nil ?_
    refine WC.seq ?_
    refine WC.dr [0, 1, 2, 3, 4, 5, 6, 7, 8] ?_
    refine mvD ?_
    refine mvD ?_
    refine cD (SV.indexAddr rfl rfl (by omega) ?_)
    refine cD (SV.loadM (by assumption) rfl (by assumption) (by assumption) ?_)
    refine mvD ?_
    refine mvD ?_
    refine cD (SV.indexAddr rfl rfl (by omega) ?_)
    refine cD (SV.loadM (by assumption) rfl (by assumption) (by assumption) ?_)
    refine cD (SV.neqI rfl rfl ?_)
    refine WD.nil ?_
    refine WC.condF rfl (by assumption) (WC.skip ?_)
    refine WC.region ?_
    refine cO (adI ?_)
    refine mvO ?_
    refine WO.nil ?_
    exact ⟨rfl, k + 1, ⟨rfl, rfl, rfl, rfl, rfl, trivial⟩, ⟨by omega, hM1, by omega⟩, by omega⟩
  · refine WC.exit (WC.seq ?_)
    refine WC.region ?_
    refine asO ?_
    refine WO.nil ?_
    refine WC.ret ?_
    exact fin_one (e := .ret) rfl trivial rfl hn1 hM1 ⟨rfl, rfl⟩

theorem same_sp2 {s : St} {H : Hp} {n ν cv : Nat} {L : List Int} {w : Value} (hX : OwnX X) (hM : Models ro s H) (hν : H ν = some (.row 1 (L.map (.int .i64)))) (hw : SlO H w 1 n (L.map (.int .i64))) (hL : L.length = n) (hn : n ≤ 17592186044416) :
    Sp X Try.prog ro 15 [.slice (some ⟨ν, 0, none⟩) n cv, w] s fun u H' => u = .bool true ∧ H' = H := by
  refine Sp.of_body (hX _ _ _ (by decide) (by decide) (by decide) (by decide)) Try.func15 rfl Try.ntmps15 (by simp) ?_
  refine WC.seq (WC.region ?_)
  refine asO ?_
  refine WO.nil ?_
  refine WC.seq (WC.seq (WC.region ?_))
  refine mvO ?_
  refine cO (SV.len rfl rfl ?_)
  refine cO (SV.move ?_)
  refine cO (SV.lenO rfl rfl (by assumption) ?_)
  refine cO (SV.neqI rfl rfl ?_)
  refine WO.nil ?_
  have hnn : decide ((n : Int) ≠ (n : Int)) = false := by simp
  refine WC.condF rfl (by assumption) (WC.skip (WC.seq (WC.seq ?_)))
  refine WC.region ?_
  refine mvO ?_
  refine cO (SV.len rfl rfl ?_)
  refine mvO ?_
  refine WO.nil ?_
  refine WC.block ?_
  refine WC.loop (D := Nat) (fun x => [(0, .slice (some ⟨ν, 0, none⟩) n cv), (1, w), (11, .slice (some ⟨ν, 0, none⟩) n cv), (12, .int .i64 n), (13, .int .i64 x)])
    (fun x s1 => s.next ≤ s1.next ∧ Models ro s1 H ∧ x ≤ n) (fun x => n - x) 0 ?_ ⟨by omega, hM, by omega⟩ ?_
  · exact ⟨rfl, rfl, rfl, rfl, rfl, trivial⟩
  rintro k g s1 ⟨hn1, hM1, hk⟩
  refine WC.seq (WC.region ?_)
  refine cO (SV.lss rfl rfl ?_)
  refine WO.nil ?_
  refine WC.seq ?_
  refine WC.condD rfl (fun hlt hltb => ?_) (fun hlt hltb => ?_)
  · have hg := ints_get0 (L := L) (i := k) (by omega) (by omega)
    obtain ⟨ν2, c2, ws2, rfl, hν2, hg2⟩ := slo_int hw hL (i := k) (by omega) (by omega)
    have hne : decide (rd L k ≠ rd L k) = false := by simp
    refine WC.skip (WC.seq (WC.block (WC.seq (WC.region ?_))))
    refine mvO ?_
    refine asO ?_
    refine WO.nil ?_
    refine WC.seq ?_
    refine WC.dr [0, 1, 2, 3, 4, 5, 6, 7, 8] ?_
    refine mvD ?_
    refine mvD ?_
    refine cD (SV.indexAddr rfl rfl (by omega) ?_)
    refine cD (SV.loadM (by assumption) rfl (by assumption) (by assumption) ?_)
    refine mvD ?_
    refine mvD ?_
    refine cD (SV.indexAddr rfl rfl (by omega) ?_)
    refine cD (SV.loadM (by assumption) rfl (by assumption) (by assumption) ?_)
    refine cD (SV.neqI rfl rfl ?_)
    refine WD.nil ?_
    refine WC.condF rfl (by assumption) (WC.skip ?_)
    refine WC.region ?_
    refine cO (adI ?_)
    refine mvO ?_
    refine WO.nil ?_
    exact ⟨rfl, k + 1, ⟨rfl, rfl, rfl, rfl, rfl, trivial⟩, ⟨by omega, hM1, by omega⟩, by omega⟩
  · refine WC.exit (WC.seq ?_)
    refine WC.region ?_
    refine asO ?_
    refine WO.nil ?_
    refine WC.ret ?_
    exact fin_one (e := .ret) rfl trivial rfl hn1 hM1 ⟨rfl, rfl⟩

/-- append([]int{}, xs...): a row of its own. -/
theorem app_fresh {H H8 : Hp} {a0 n : Nat} {v8 : Value} {C : List Int} (hne0 : ∀ ν o, H ν = some o → ν ≠ a0) (hn : C.length = n) (hk : KeptBut (H.up a0 (.row 1 [])) H8 (.slice (some ⟨a0, 0, none⟩) 0 0)) (hnew : NewOr (H.up a0 (.row 1 [])) (.slice (some ⟨a0, 0, none⟩) 0 0) v8)
    (hex : AppEx (H.up a0 (.row 1 [])) H8 (.slice (some ⟨a0, 0, none⟩) 0 0) v8 1 0 (0 + n) ([] ++ C.map (.int .i64))) :
    ∃ a, v8 = .slice (some ⟨a, 0, none⟩) n n ∧ H8 a = some (.row 1 (C.map (.int .i64))) ∧ ∀ ν o, H ν = some o → H8 ν = some o ∧ ν ≠ a := by
  have hfr : ∀ ν o, H ν = some o → baseV v8 ≠ some ν := fun ν o e h => by
    rcases hnew ν h with h1 | h1
    · cases h1; exact hne0 _ _ e rfl
    · rw [Hp.up_ne (hne0 _ _ e) e] at h1; cases h1
  have hkeep : ∀ ν o, H ν = some o → H8 ν = some o := fun ν o e => hk ν o (Hp.up_ne (hne0 _ _ e) e) (fun h => by cases h; exact hne0 _ _ e rfl)
  by_cases hn0 : n = 0
  · subst hn0
    obtain rfl : C = [] := List.length_eq_zero_iff.mp hn
    obtain rfl := hex.2.2.1 _ _ _ rfl (Nat.le_refl _)
    exact ⟨a0, rfl, hex.2.2.2 rfl _ _ Hp.up_same, fun ν o e => ⟨hkeep ν o e, hne0 ν o e⟩⟩
  · obtain ⟨a1, rfl, h1⟩ := hex.2.1 _ _ _ rfl (by omega)
    rw [Nat.zero_add] at *
    exact ⟨a1, rfl, h1, fun ν o e => ⟨hkeep ν o e, fun e2 => hfr ν o e (by rw [e2]; rfl)⟩⟩


/-- One number appended to a row that is full: a new row. -/
theorem app_one {H H8 : Hp} {a b k : Nat} {v8 : Value} {O : List Int} {x : Int} (ha : H a = some (.row 1 (O.map (.int .i64)))) (hO : O.length = k) (hb : ∀ ν o, H ν = some o → ν ≠ b)
    (hk : KeptBut (H.up b (.row 1 [.int .i64 x])) H8 (.slice (some ⟨a, 0, none⟩) k k)) (hnew : NewOr (H.up b (.row 1 [.int .i64 x])) (.slice (some ⟨a, 0, none⟩) k k) v8)
    (hex : AppEx (H.up b (.row 1 [.int .i64 x])) H8 (.slice (some ⟨a, 0, none⟩) k k) v8 1 k (k + 1) (O.map (.int .i64) ++ [.int .i64 x])) :
    ∃ a', v8 = .slice (some ⟨a', 0, none⟩) (k + 1) (k + 1) ∧ H8 a' = some (.row 1 ((O ++ [x]).map (.int .i64))) ∧ ∀ ν o, H ν = some o → ν ≠ a → H8 ν = some o ∧ ν ≠ a' := by
  obtain ⟨a', rfl, h1⟩ := hex.2.1 _ _ _ rfl (by omega)
  refine ⟨a', rfl, by rw [List.map_append]; exact h1, fun ν o e hne => ⟨hk ν o (Hp.up_ne (hb ν o e) e) (fun h => hne (by cases h; rfl)), fun e2 => ?_⟩⟩
  subst e2
  rcases hnew ν rfl with h | h
  · cases h; exact hne rfl
  · rw [Hp.up_ne (hb ν o e) e] at h; cases h


/-- Numbers appended to a row that is full. -/
theorem app_more {H H8 : Hp} {a n m : Nat} {v8 : Value} {O B : List Int} (ha : H a = some (.row 1 (O.map (.int .i64)))) (hO : O.length = n) (hB : B.length = m)
    (hk : KeptBut H H8 (.slice (some ⟨a, 0, none⟩) n n)) (hnew : NewOr H (.slice (some ⟨a, 0, none⟩) n n) v8)
    (hex : AppEx H H8 (.slice (some ⟨a, 0, none⟩) n n) v8 1 n (n + m) (O.map (.int .i64) ++ B.map (.int .i64))) :
    ∃ a', v8 = .slice (some ⟨a', 0, none⟩) (n + m) (n + m) ∧ H8 a' = some (.row 1 ((O ++ B).map (.int .i64))) ∧ ∀ ν o, H ν = some o → ν ≠ a → H8 ν = some o ∧ ν ≠ a' := by
  by_cases hm : m = 0
  · subst hm
    obtain rfl : B = [] := List.length_eq_zero_iff.mp hB
    obtain rfl := hex.2.2.1 _ _ _ rfl (Nat.le_refl _)
    refine ⟨a, rfl, by rw [List.append_nil]; exact hex.2.2.2 rfl _ _ ha, fun ν o e hne => ⟨hk ν o e (fun h => hne (by cases h; rfl)), hne⟩⟩
  · obtain ⟨a', rfl, h1⟩ := hex.2.1 _ _ _ rfl (by omega)
    refine ⟨a', rfl, by rw [List.map_append]; exact h1, fun ν o e hne => ⟨hk ν o e (fun h => hne (by cases h; rfl)), fun e2 => ?_⟩⟩
    subst e2
    rcases hnew ν rfl with h | h
    · cases h; exact hne rfl
    · rw [e] at h; cases h
end Go.Proofs.Ythkklpegjcnjoaa

namespace Go.Proofs.Ythkklpegjcnjoaa
open Go.Ab
variable {X : CallE} {ro : Nat}
set_option maxRecDepth 10000
set_option linter.unusedVariables false
set_option linter.unusedSimpArgs false

instance : TArr Try.prog 32 2 23 1 := ⟨Try.underlying32, by kernel_rfl⟩
instance : TAgg Try.prog 32 2 := ⟨by kernel_rfl, by kernel_rfl⟩
instance : TZero Try.prog 32 [.slice none 0 0, .slice none 0 0] := ⟨by kernel_rfl⟩

theorem class_sp {Y : Exts} {s : St} {H : Hp} {c : Int} (hX : ExtOk X ro Y) (hM : Models ro s H) : Sp X Try.prog ro 18 [.int .i64 c] s fun v H' => v = .int .i64 (Y.LB c) ∧ H' = H := by
  have hX0 := hX.own
  refine Sp.of_body (hX.own _ _ _ (by decide) (by decide) (by decide) (by decide)) Try.func18 rfl Try.ntmps18 (by simp) ?_
  refine WC.seq (WC.region ?_)
  refine asO ?_
  refine WO.nil ?_
  refine WC.seq (WC.region ?_)
  refine mvO ?_
  refine cO ?_
  refine SV.callM rfl rfl (hX.look44 _ _ _ hM) ?_
  rintro v s1 H1 hn1 hM1 ⟨rfl, rfl⟩
  refine cO (SV.field rfl rfl ?_)
  refine asO ?_
  refine WO.nil ?_
  refine WC.ret ?_
  exact fin_one (e := .ret) (v := .int .i64 _) rfl trivial rfl hn1 hM1 ⟨rfl, rfl⟩
theorem opens_sp {s : St} {H : Hp} {c : Int} (hX : OwnX X) (hM : Models ro s H) : Sp X Try.prog ro 19 [.int .i64 c] s fun v H' => v = .bool (decide (isOpener c)) ∧ H' = H := by
  refine Sp.of_body (hX _ _ _ (by decide) (by decide) (by decide) (by decide)) Try.func19 rfl Try.ntmps19 (by simp) ?_
  refine WC.seq (WC.region ?_)
  refine asO ?_
  refine WO.nil ?_
  refine WC.seq (WC.region ?_)
  refine mvO ?_
  refine cO (SV.eqlI rfl rfl ?_)
  refine mvO ?_
  refine WO.guardDF rfl rfl rfl (fun hg1_3 hh1_3 => SV.moveV (by constructor) ?_) (fun hg1_3 hh1_3 => ?_) (by decide)
  all_goals (first | refine gyO (SV.eqlI rfl rfl ?_) | refine gnO ?_)
  all_goals (first | refine cO (pT ?_) | refine cO (pF ?_))
  all_goals refine mvO ?_
  all_goals (first | refine WO.guardN rfl rfl rfl (by rfl) ?_ (by decide) | refine WO.guardDF rfl rfl rfl (fun hg1_7 hh1_7 => SV.moveV (by constructor) ?_) (fun hg1_7 hh1_7 => ?_) (by decide))
  all_goals (first | refine gyO (SV.eqlI rfl rfl ?_) | refine WO.guardN rfl rfl rfl (by first | assumption | rfl) ?_ (by decide))
  all_goals (first | refine cO (SV.pickTV rfl (by first | assumption | rfl) (by constructor) ?_) | refine cO (pF ?_))
  all_goals refine asO ?_
  all_goals refine WO.nil ?_
  all_goals (skip; refine WC.ret ?_; refine fin_one (v := .bool _) rfl trivial rfl (Nat.le_refl _) hM ⟨?_, rfl⟩; simp [isOpener, *])
theorem gone_sp {s : St} {H : Hp} {c : Int} (hX : OwnX X) (hM : Models ro s H) : Sp X Try.prog ro 20 [.int .i64 c] s fun v H' => v = .bool (decide (isRemoved c)) ∧ H' = H := by
  refine Sp.of_body (hX _ _ _ (by decide) (by decide) (by decide) (by decide)) Try.func20 rfl Try.ntmps20 (by simp) ?_
  refine WC.seq (WC.region ?_)
  refine asO ?_
  refine WO.nil ?_
  refine WC.seq (WC.region ?_)
  refine mvO ?_
  refine cO (SV.eqlI rfl rfl ?_)
  refine mvO ?_
  refine WO.guardDF rfl rfl rfl (fun hg1_3 hh1_3 => SV.moveV (by constructor) ?_) (fun hg1_3 hh1_3 => ?_) (by decide)
  all_goals (first | refine gyO (SV.eqlI rfl rfl ?_) | refine gnO ?_)
  all_goals (first | refine cO (pT ?_) | refine cO (pF ?_))
  all_goals refine mvO ?_
  all_goals (first | refine WO.guardN rfl rfl rfl (by rfl) ?_ (by decide) | refine WO.guardDF rfl rfl rfl (fun hg1_7 hh1_7 => SV.moveV (by constructor) ?_) (fun hg1_7 hh1_7 => ?_) (by decide))
  all_goals (first | refine gyO (SV.eqlI rfl rfl ?_) | refine WO.guardN rfl rfl rfl (by first | assumption | rfl) ?_ (by decide))
  all_goals (first | refine cO (SV.pickTV rfl (by first | assumption | rfl) (by constructor) ?_) | refine cO (pF ?_))
  all_goals refine mvO ?_
  all_goals (first | refine WO.guardN rfl rfl rfl (by rfl) ?_ (by decide) | refine WO.guardDF rfl rfl rfl (fun hg1_11 hh1_11 => SV.moveV (by constructor) ?_) (fun hg1_11 hh1_11 => ?_) (by decide))
  all_goals (first | refine gyO (SV.eqlI rfl rfl ?_) | refine WO.guardN rfl rfl rfl (by first | assumption | rfl) ?_ (by decide))
  all_goals (first | refine cO (SV.pickTV rfl (by first | assumption | rfl) (by constructor) ?_) | refine cO (pF ?_))
  all_goals refine mvO ?_
  all_goals (first | refine WO.guardN rfl rfl rfl (by rfl) ?_ (by decide) | refine WO.guardDF rfl rfl rfl (fun hg1_15 hh1_15 => SV.moveV (by constructor) ?_) (fun hg1_15 hh1_15 => ?_) (by decide))
  all_goals (first | refine gyO (SV.eqlI rfl rfl ?_) | refine WO.guardN rfl rfl rfl (by first | assumption | rfl) ?_ (by decide))
  all_goals (first | refine cO (SV.pickTV rfl (by first | assumption | rfl) (by constructor) ?_) | refine cO (pF ?_))
  all_goals refine mvO ?_
  all_goals (first | refine WO.guardN rfl rfl rfl (by rfl) ?_ (by decide) | refine WO.guardDF rfl rfl rfl (fun hg1_19 hh1_19 => SV.moveV (by constructor) ?_) (fun hg1_19 hh1_19 => ?_) (by decide))
  all_goals (first | refine gyO (SV.eqlI rfl rfl ?_) | refine WO.guardN rfl rfl rfl (by first | assumption | rfl) ?_ (by decide))
  all_goals (first | refine cO (SV.pickTV rfl (by first | assumption | rfl) (by constructor) ?_) | refine cO (pF ?_))
  all_goals refine asO ?_
  all_goals refine WO.nil ?_
  all_goals (skip; refine WC.ret ?_; refine fin_one (v := .bool _) rfl trivial rfl (Nat.le_refl _) hM ⟨?_, rfl⟩; first | (simp_all [isRemoved]; done) | exact congrArg Value.bool (decide_eq_decide.mpr (by unfold isRemoved; omega)))

theorem same_sp3 {s : St} {H : Hp} {n ν o c ν2 o2 c2 e1 e2 : Nat} {vs ws : List Value} {L : List Int} (hX : OwnX X) (hM : Models ro s H) (hν : H ν = some (.row e1 vs)) (hν2 : H ν2 = some (.row e2 ws)) (h1 : ∀ i : Int, 0 ≤ i → i < n → vs[o + i.toNat * 1]? = some (.int .i64 (rd L i))) (h2 : ∀ i : Int, 0 ≤ i → i < n → ws[o2 + i.toNat * 1]? = some (.int .i64 (rd L i))) (hn : n ≤ 17592186044416) :
    Sp X Try.prog ro 15 [.slice (some ⟨ν, o, none⟩) n c, .slice (some ⟨ν2, o2, none⟩) n c2] s fun u H' => u = .bool true ∧ H' = H := by
  refine Sp.of_body (hX _ _ _ (by decide) (by decide) (by decide) (by decide)) Try.func15 rfl Try.ntmps15 (by simp) ?_
  refine WC.seq (WC.region ?_)
  refine asO ?_
  refine WO.nil ?_
  refine WC.seq (WC.seq (WC.region ?_))
  refine mvO ?_
  refine cO (SV.len rfl rfl ?_)
  refine mvO ?_
  refine cO (SV.len rfl rfl ?_)
  refine cO (SV.neqI rfl rfl ?_)
  refine WO.nil ?_
  have hnn : decide ((n : Int) ≠ (n : Int)) = false := by simp
  refine WC.condF rfl (by assumption) (WC.skip (WC.seq (WC.seq ?_)))
  refine WC.region ?_
  refine mvO ?_
  refine cO (SV.len rfl rfl ?_)
  refine mvO ?_
  refine WO.nil ?_
  refine WC.block ?_
  refine WC.loop (D := Nat) (fun x => [(0, .slice (some ⟨ν, o, none⟩) n c), (1, .slice (some ⟨ν2, o2, none⟩) n c2), (11, .slice (some ⟨ν, o, none⟩) n c), (12, .int .i64 n), (13, .int .i64 x)])
    (fun x s1 => s.next ≤ s1.next ∧ Models ro s1 H ∧ x ≤ n) (fun x => n - x) 0 ?_ ⟨by omega, hM, by omega⟩ ?_
  · exact ⟨rfl, rfl, rfl, rfl, rfl, trivial⟩
  rintro k g s1 ⟨hn1, hM1, hk⟩
  refine WC.seq (WC.region ?_)
  refine cO (SV.lss rfl rfl ?_)
  refine WO.nil ?_
  refine WC.seq ?_
  refine WC.condD rfl (fun hlt hltb => ?_) (fun hlt hltb => ?_)
  · have hg := h1 k (by omega) (by omega)
    have hg2 := h2 k (by omega) (by omega)
    have hne : decide (rd L k ≠ rd L k) = false := by simp
    refine WC.skip (WC.seq (WC.block (WC.seq (WC.region ?_))))
    refine mvO ?_
    refine asO ?_
    refine WO.nil ?_
    refine WC.seq ?_
    refine WC.dr [0, 1, 2, 3, 4, 5, 6, 7, 8] ?_
    refine mvD ?_
    refine mvD ?_
    refine cD (SV.indexAddr rfl rfl (by omega) ?_)
    refine cD (SV.loadM (by assumption) rfl (by assumption) (by assumption) ?_)
    refine mvD ?_
    refine mvD ?_
    refine cD (SV.indexAddr rfl rfl (by omega) ?_)
    refine cD (SV.loadM (by assumption) rfl (by assumption) (by assumption) ?_)
    refine cD (SV.neqI rfl rfl ?_)
    refine WD.nil ?_
    refine WC.condF rfl (by assumption) (WC.skip ?_)
    refine WC.region ?_
    refine cO (adI ?_)
    refine mvO ?_
    refine WO.nil ?_
    exact ⟨rfl, k + 1, ⟨rfl, rfl, rfl, rfl, rfl, trivial⟩, ⟨by omega, hM1, by omega⟩, by omega⟩
  · refine WC.exit (WC.seq ?_)
    refine WC.region ?_
    refine asO ?_
    refine WO.nil ?_
    refine WC.ret ?_
    exact fin_one (e := .ret) rfl trivial rfl hn1 hM1 ⟨rfl, rfl⟩

/-- A slice's end, from a place on: it is read. -/
theorem SV.sliceFrom {P : Program} {g : Gm} {s : St} {H : Hp} {R : Value → St → Prop} {x lo : Operand} {t e : TypeId} {sz : Nat} [hT : TSlice P t e sz] {ν n c : Nat} {ws : List Value} {i : Int} (hM : Models ro s H) (hx : og g x = .slice (some ⟨ν, 0, none⟩) n c) (hH : H ν = some (.row sz ws)) (hl : og g lo = .int .i64 i)
    (hij : 0 ≤ i ∧ i < n ∧ n ≤ c) {m : Nat} (hm : n - i.toNat = m) (hR : R (.slice (some ⟨ν, i.toNat * sz, none⟩) m (c - i.toNat)) s) : SV X P ro g (.slice t x (some lo) none none) s R := by
  subst hm
  obtain ⟨a, rfl⟩ : ∃ k : Nat, i = (k : Int) := ⟨i.toNat, by omega⟩
  obtain ⟨hlt, hro, b, hbg, hbO⟩ := hM.ok ν _ hH
  have hlive : liveBlk s ν = some b := by simp only [liveBlk, hbg, hbO.1, cond_false]
  refine SV.pure (fun t' ht => ?_) hR
  have hca : Nat.beq c a = false := by cases e : Nat.beq c a with | false => rfl | true => have := Nat.eq_of_beq_eq_true e; omega
  have hb : bounds n c (some (.int .i64 a)) none none = some (a, n, c) := by
    unfold bounds
    simp only [boundOr, bound1, show Nat.ble n c = true from Nat.ble_eq.mpr (by omega), show Nat.ble a n = true from Nat.ble_eq.mpr (by omega), show Nat.ble c c = true from Nat.ble_eq.mpr (Nat.le_refl _), cond_true]
  simp only [Int.toNat_natCast, evalOp, opv_og, ht, hx, Option.map_none, Option.map_some, hl, sliceOf, hT.und, hT.sz, hb, hlive, hca, cond_false, addA_spot, Nat.zero_add]
  cases hex : exactCap b 0 c with
  | true => simp only [cond_true]
  | false =>
    have hopn : b.opn = true := by
      cases ho : b.opn with
      | true => rfl
      | false => simp [exactCap, ho] at hex
    simp only [cond_false, show Nat.beq b.es sz = true from by rw [hbO.2.2.2.1 hopn]; exact Nat.beq_refl _, cond_true]
/-- A slice's beginning, over a row: it is read. -/
theorem SV.sliceUpto {P : Program} {g : Gm} {s : St} {H : Hp} {R : Value → St → Prop} {x hi : Operand} {t e : TypeId} {sz : Nat} [hT : TSlice P t e sz] {ν n c : Nat} {ws : List Value} {i : Int} (hM : Models ro s H) (hx : og g x = .slice (some ⟨ν, 0, none⟩) n c) (hH : H ν = some (.row sz ws)) (hl : og g hi = .int .i64 i)
    (hij : 0 ≤ i ∧ i ≤ c) (hR : R (.slice (some ⟨ν, 0, none⟩) i.toNat c) s) : SV X P ro g (.slice t x none (some hi) none) s R := by
  obtain ⟨k, rfl⟩ : ∃ k : Nat, i = (k : Int) := ⟨i.toNat, by omega⟩
  simp only [Int.toNat_natCast] at hR
  obtain ⟨hlt, hro, b, hbg, hbO⟩ := hM.ok ν _ hH
  have hlive : liveBlk s ν = some b := by simp only [liveBlk, hbg, hbO.1, cond_false]
  refine SV.pure (v := .slice (some ⟨ν, 0, none⟩) k c) (fun t' ht => ?_) hR
  simp only [evalOp, opv_og, ht, hx, Option.map_none, Option.map_some, hl, sliceOf, hT.und, hT.sz, bounds_to (len := n) rfl (show k ≤ c by omega), hlive]
  have e : (bif Nat.beq c 0 then (⟨ν, 0, none⟩ : Addr) else addA ⟨ν, 0, none⟩ (0 * sz)) = ⟨ν, 0, none⟩ := by rw [Nat.zero_mul]; cases Nat.beq c 0 <;> rfl
  have e2 : addA (⟨ν, 0, none⟩ : Addr) (0 * sz) = ⟨ν, 0, none⟩ := by rw [Nat.zero_mul]; rfl
  cases hex : exactCap b 0 c with
  | true => simp only [cond_true, e, Nat.sub_zero]
  | false =>
    have hopn : b.opn = true := by
      cases ho : b.opn with
      | true => rfl
      | false => simp [exactCap, ho] at hex
    simp only [cond_false, show Nat.beq b.es sz = true from by rw [hbO.2.2.2.1 hopn]; exact Nat.beq_refl _, cond_true, e2, Nat.sub_zero]
end Go.Proofs.Ythkklpegjcnjoaa

namespace Go.Proofs.Ythkklpegjcnjoaa
open Go.Ab
variable {X : CallE} {ro : Nat}
set_option maxRecDepth 10000
set_option linter.unusedVariables false
set_option linter.unusedSimpArgs false
-- 

/-- A handed row of numbers, read number by number. -/
def Rdd (H : Hp) (A : Option Addr) (C : List Int) : Prop := ∀ i : Int, 0 ≤ i → i < C.length → ∃ ν o f, A = some ⟨ν, o, none⟩ ∧ H ν = some (.rd f) ∧ f (o + i.toNat * 1) = some (.int .i64 (rd C i))
theorem Rdd.mono {H H' : Hp} {A : Option Addr} {C : List Int} (h : Rdd H A C) (hk : ∀ ν o, H ν = some o → H' ν = some o) : Rdd H' A C := fun i a d => by
  obtain ⟨ν, o, f, e, h1, h2⟩ := h i a d
  exact ⟨ν, o, f, e, hk _ _ h1, h2⟩
theorem rd_range {f : Nat → Int} {n : Nat} {i : Int} (h0 : 0 ≤ i) (h1 : i < n) : rd ((List.range n).map f) i = f i.toNat := by
  rw [rd_at h0 (by simp; exact h1)]; simp
theorem levels_spI {Y : Exts} {s : St} {H : Hp} {c cc n : Nat} {C : List Int} {b : Int} (hX : ExtOk X ro Y) (hM : Models ro s H) (hc : H c = some (.row 1 (C.map (.int .i64)))) (hC : C.length = n) (hb : -1 ≤ b ∧ b ≤ 1) (hn : n ≤ 16384) :
    Sp X Try.prog ro 17 [.slice (some ⟨c, 0, none⟩) n cc, .int .i64 b] s fun v H' => ∃ l cl, v = .tuple #[.slice (some ⟨l, 0, none⟩) n (n + cl), .int .i64 0] ∧ (∀ ν o, H ν = some o → H' ν = some o ∧ ν ≠ l) ∧ H' l = some (.row 1 ((levelsM Y C b).map (.int .i64))) ∧ (levelsM Y C b).length = n := by
  subst hC
  exact levels_spc hX hM hc hb hn

set_option maxHeartbeats 8000000 in
theorem isolates_sp {Y : Exts} {s : St} {H : Hp} {A0 A1 A2 A3 : Option Addr} {k0 k1 k2 k3 : Nat} {Ca Cd Cb Cc : List Int} (hX : ExtOk X ro Y) (hL : Y.LB 8294 = 19) (hP : Y.LB 8297 = 22) (hM : Models ro s H)
    (hsrc0 : ∀ H' : Hp, (∀ ν o, H ν = some o → H' ν = some o) → Src Try.prog ro H' (.slice A0 Ca.length k0) 1 Ca.length (Ca.map (.int .i64)))
    (hsrc1 : ∀ H' : Hp, (∀ ν o, H ν = some o → H' ν = some o) → Src Try.prog ro H' (.slice A1 Cd.length k1) 1 Cd.length (Cd.map (.int .i64)))
    (hsrc2 : ∀ H' : Hp, (∀ ν o, H ν = some o → H' ν = some o) → Src Try.prog ro H' (.slice A2 Cb.length k2) 1 Cb.length (Cb.map (.int .i64)))
    (hsrc3 : ∀ H' : Hp, (∀ ν o, H ν = some o → H' ν = some o) → Src Try.prog ro H' (.slice A3 Cc.length k3) 1 Cc.length (Cc.map (.int .i64)))
    (hr0 : Rdd H A0 Ca) (hr2 : Rdd H A2 Cb) (hr3 : Rdd H A3 Cc) (hbig : Ca.length ≤ 9223372036854775807 ∧ Cb.length ≤ 9223372036854775807 ∧ Cc.length ≤ 9223372036854775807 ∧ Cd.length ≤ 9223372036854775807) :
    Sp X Try.prog ro 6 [.agg #[.slice A0 Ca.length k0, .slice A1 Cd.length k1], .agg #[.slice A2 Cb.length k2, .slice A3 Cc.length k3]] s fun v H' => v = .bool true := by
  have hX0 := hX.own
  refine Sp.of_body (hX.own _ _ _ (by decide) (by decide) (by decide) (by decide)) Try.func6 rfl Try.ntmps6 (by simp) ?_
  refine WC.seq (WC.region ?_)
  refine cO (SV.boxM (by assumption) rfl (fun a0_0 s0_0 hf0_0 hne0_0 hn0_0 hM0_0 => ?_))
  refine cO (SV.boxM (by assumption) rfl (fun a0_1 s0_1 hf0_1 hne0_1 hn0_1 hM0_1 => ?_))
  refine asO ?_
  refine WO.nil ?_
  have key : ∃ HB : Hp, Models ro s0_1 HB ∧ (∀ ν o, H ν = some o → HB ν = some o) ∧ HB a0_0 = some (.row 0 [.slice A0 Ca.length k0, .slice A1 Cd.length k1]) ∧ HB a0_1 = some (.row 0 [.slice A2 Cb.length k2, .slice A3 Cc.length k3]) :=
    ⟨_, hM0_1, fun ν o e => Hp.up_ne (hne0_1 _ _ (Hp.up_ne (hne0_0 _ _ e) e)) (Hp.up_ne (hne0_0 _ _ e) e), Hp.up_ne (hne0_1 _ _ Hp.up_same) Hp.up_same, Hp.up_same⟩
  clear hM0_1
  obtain ⟨HB, hMB, hkB, hb0, hb1⟩ := key
  refine WC.seq (WC.seq (WC.region ?_))
  refine cO ?_
  refine SV.callM rfl rfl (hX.alive13 _ _ hMB) ?_
  rintro v s1 H1 hn1 hM1 ⟨rfl, eH⟩
  rw [eH] at hM1
  clear eH
  refine cO (SV.notT rfl (by rfl) ?_)
  refine WO.nil ?_
  refine WC.condF rfl (by rfl) (WC.skip (WC.seq ?_))
  refine WC.dr [0, 1, 2, 3, 4, 5, 6, 7, 8, 9, 10, 11] ?_
  refine cD (SV.indexAddrA rfl rfl (by omega) ?_)
  refine cD (ldM ?_)
  refine cD (SV.indexAddrA rfl rfl (by omega) ?_)
  refine cD (ldM ?_)
  refine cD (SV.indexAddrA rfl rfl (by omega) ?_)
  refine cD (ldM ?_)
  refine cD (SV.indexAddrA rfl rfl (by omega) ?_)
  refine cD (ldM ?_)
  refine asD ?_
  refine asD ?_
  refine asD ?_
  refine asD ?_
  refine WD.nil ?_
  refine WC.seq (WC.region ?_)
  refine asO ?_
  refine WO.nil ?_
  refine WC.seq (WC.seq (WC.region ?_))
  refine mvO ?_
  refine cO (SV.len rfl rfl ?_)
  refine mvO ?_
  refine WO.nil ?_
  refine WC.block ?_
  refine WC.loop (D := Nat × Int) (fun x => [(5, .slice A0 Ca.length k0), (6, .slice A1 Cd.length k1), (7, .slice A2 Cb.length k2), (8, .slice A3 Cc.length k3), (9, .int .i64 x.2), (39, .slice A0 Ca.length k0), (40, .int .i64 Ca.length), (41, .int .i64 x.1)])
    (fun x s2 => s.next ≤ s2.next ∧ Models ro s2 HB ∧ x.1 ≤ Ca.length ∧ x.2 = dp (Ca.map Y.LB) x.1 ∧ 0 ≤ x.2 ∧ x.2 ≤ x.1) (fun x => Ca.length - x.1) (0, 0) ?_ ⟨by omega, hM1, Nat.zero_le _, rfl, Int.le_refl _, Int.le_refl _⟩ ?_
  · exact ⟨rfl, rfl, rfl, rfl, rfl, rfl, rfl, rfl, trivial⟩
  rintro ⟨k, n⟩ g s2 ⟨hn2, hM2, hk, hdp, hn0, hnk⟩
  dsimp only at hn2 hM2 hk hdp hn0 hnk ⊢
  refine WC.seq (WC.region ?_)
  refine cO (SV.lss rfl rfl ?_)
  refine WO.nil ?_
  refine WC.seq ?_
  refine WC.condD rfl (fun hlt hltb => ?_) (fun hlt hltb => ?_)
  · obtain ⟨ν, o, f, rfl, hν, hf⟩ := hr0 k (by omega) (by omega)
    have hνB := hkB _ _ hν
    have hF : rd (Ca.map Y.LB) k = Y.LB (rd Ca k) := rd_map (by omega) (by omega)
    have hdk : dp (Ca.map Y.LB) (k + 1) = dp (Ca.map Y.LB) k + (if isOpener (rd (Ca.map Y.LB) k) ∨ isRemoved (rd (Ca.map Y.LB) k) then 1 else 0) := rfl
    rw [hF] at hdk
    refine WC.skip (WC.seq (WC.block (WC.seq (WC.region ?_))))
    refine cO (SV.indexAddr rfl rfl (by omega) ?_)
    refine cO (SV.loadR (by assumption) rfl (by assumption) (by assumption) ?_)
    refine asO ?_
    refine WO.nil ?_
    refine WC.seq (WC.region ?_)
    refine mvO ?_
    refine cO ?_
    refine SV.callM rfl rfl (class_sp hX hM2) ?_
    rintro v s3 H3 hn3 hM3 ⟨rfl, eH⟩
    rw [eH] at hM3
    clear eH
    refine asO ?_
    refine WO.nil ?_
    generalize Y.LB (rd Ca k) = cl at hdk ⊢
    refine WC.seq (WC.region ?_)
    refine mvO ?_
    refine cO ?_
    refine SV.callM rfl rfl (opens_sp hX0 hM3) ?_
    rintro v s4 H4 hn4 hM4 ⟨rfl, eH⟩
    rw [eH] at hM4
    clear eH
    by_cases hop : isOpener cl
    · have hod : decide (isOpener cl) = true := decide_eq_true hop
      rw [if_pos (.inl hop)] at hdk
      refine mvO ?_
      refine gnO ?_
      all_goals refine gnO ?_
      refine cO (pT ?_)
      all_goals refine WO.nil ?_
      refine WC.condT rfl (by rfl) ?_
      refine WC.region ?_
      refine mvO ?_
      refine cO (adI ?_)
      refine asO ?_
      refine WO.nil ?_
      refine WC.region ?_
      refine cO (adI ?_)
      refine mvO ?_
      refine WO.nil ?_
      exact ⟨rfl, (k + 1, n + 1), ⟨rfl, rfl, rfl, rfl, rfl, rfl, rfl, rfl, trivial⟩, ⟨by omega, by assumption, by dsimp only; omega, by dsimp only; rw [hdk]; omega, by dsimp only; omega, by dsimp only; omega⟩, by dsimp only; omega⟩
    · have hod : decide (isOpener cl) = false := decide_eq_false hop
      refine mvO ?_
      refine gyO (SV.moveV (by constructor) ?_)
      all_goals refine gyO ?_
      refine SV.callM rfl rfl (gone_sp hX0 hM4) ?_
      rintro v s5 H5 hn5 hM5 ⟨rfl, eH⟩
      rw [eH] at hM5
      clear eH
      by_cases hrm : isRemoved cl
      · have hrd : decide (isRemoved cl) = true := decide_eq_true hrm
        rw [if_pos (.inr hrm)] at hdk
        refine cO (pF ?_)
        all_goals refine WO.nil ?_
        refine WC.condT rfl (by assumption) ?_
        refine WC.region ?_
        refine mvO ?_
        refine cO (adI ?_)
        refine asO ?_
        refine WO.nil ?_
        refine WC.region ?_
        refine cO (adI ?_)
        refine mvO ?_
        refine WO.nil ?_
        exact ⟨rfl, (k + 1, n + 1), ⟨rfl, rfl, rfl, rfl, rfl, rfl, rfl, rfl, trivial⟩, ⟨by omega, by assumption, by dsimp only; omega, by dsimp only; rw [hdk]; omega, by dsimp only; omega, by dsimp only; omega⟩, by dsimp only; omega⟩
      · have hrd : decide (isRemoved cl) = false := decide_eq_false hrm
        rw [if_neg (fun x => x.elim hop hrm)] at hdk
        refine cO (pF ?_)
        all_goals refine WO.nil ?_
        refine WC.condF rfl (by assumption) (WC.skip ?_)
        refine WC.region ?_
        refine cO (adI ?_)
        refine mvO ?_
        refine WO.nil ?_
        exact ⟨rfl, (k + 1, n), ⟨rfl, rfl, rfl, rfl, rfl, rfl, rfl, rfl, trivial⟩, ⟨by omega, by assumption, by dsimp only; omega, by dsimp only; rw [hdk]; omega, by dsimp only; omega, by dsimp only; omega⟩, by dsimp only; omega⟩
  obtain rfl : k = Ca.length := by omega
  refine WC.exit (WC.seq (WC.seq ?_))
  refine WC.region ?_
  refine mvO ?_
  refine cO (SV.gtr rfl rfl ?_)
  refine WO.nil ?_
  refine WC.condD rfl (fun hdeep hdeepb => ?_) (fun hdeep hdeepb => ?_)
  · refine WC.seq (WC.region ?_)
    refine asO ?_
    refine WO.nil ?_
    refine WC.ret ?_
    exact fin_one (e := .ret) (v := .bool true) rfl trivial rfl (by omega) hM2 rfl
  have hd60 : dp (Ca.map Y.LB) Ca.length ≤ 60 := by omega
  refine WC.skip (WC.seq (WC.seq (WC.region ?_)))
  refine mvO ?_
  refine mvO ?_
  refine cO (SV.buildA rfl ?_)
  refine mvO ?_
  refine WO.nil ?_
  refine WC.block ?_
  clear hr0
  refine WC.loop (D := Nat) (fun x => [(5, .slice A0 Ca.length k0), (6, .slice A1 Cd.length k1), (7, .slice A2 Cb.length k2), (8, .slice A3 Cc.length k3), (60, .agg #[.slice A2 Cb.length k2, .slice A3 Cc.length k3]), (61, .int .i64 x)])
    (fun x s2 => s.next ≤ s2.next ∧ Models ro s2 HB ∧ x ≤ 2 ∧ (1 ≤ x → Inn Y Cb) ∧ (2 ≤ x → Inn Y Cc)) (fun x => 2 - x) 0 ?_ ⟨by omega, hM2, by omega, fun h => by omega, fun h => by omega⟩ ?_
  · exact ⟨rfl, rfl, rfl, rfl, rfl, rfl, trivial⟩
  clear hn2 hM2
  rintro x g s2 ⟨hn2, hM2, hx2, hIb, hIc⟩
  refine WC.seq (WC.region ?_)
  refine cO (SV.lss rfl rfl ?_)
  refine WO.nil ?_
  refine WC.seq ?_
  refine WC.condD rfl (fun hlt hltb => ?_) (fun hlt hltb => ?_)
  · have hsel : ∃ A C kk, nth (#[Value.slice A2 Cb.length k2, .slice A3 Cc.length k3] : Array Value).toList (x : Int).toNat = some (.slice A C.length kk) ∧ Rdd HB A C ∧ C.length ≤ 9223372036854775807 ∧ (Inn Y C → (1 ≤ x + 1 → Inn Y Cb) ∧ (2 ≤ x + 1 → Inn Y Cc)) := by
      rcases (show x = 0 ∨ x = 1 by omega) with rfl | rfl
      · exact ⟨A2, Cb, k2, rfl, hr2.mono hkB, by omega, fun h => ⟨fun _ => h, fun h => by omega⟩⟩
      · exact ⟨A3, Cc, k3, rfl, hr3.mono hkB, by omega, fun h => ⟨fun _ => hIb (by omega), fun _ => h⟩⟩
    obtain ⟨A, C, kk, hidx, hrC, hlC, hnext⟩ := hsel
    refine WC.skip (WC.seq (WC.block (WC.seq (WC.region ?_))))
    refine cO (SV.index rfl rfl (by omega) (by assumption) ?_)
    refine asO ?_
    refine WO.nil ?_
    refine WC.seq (WC.region ?_)
    refine asO ?_
    refine WO.nil ?_
    refine WC.seq (WC.seq (WC.region ?_))
    refine mvO ?_
    refine cO (SV.len rfl rfl ?_)
    refine mvO ?_
    refine WO.nil ?_
    refine WC.block ?_
    refine WC.loop (D := Nat × Bool) (fun y => [(5, .slice A0 Ca.length k0), (6, .slice A1 Cd.length k1), (7, .slice A2 Cb.length k2), (8, .slice A3 Cc.length k3), (60, .agg #[.slice A2 Cb.length k2, .slice A3 Cc.length k3]), (61, .int .i64 x), (15, .bool y.2), (64, .slice A C.length kk), (65, .int .i64 C.length), (66, .int .i64 y.1)])
      (fun y s3 => s.next ≤ s3.next ∧ Models ro s3 HB ∧ y.1 ≤ C.length ∧ (∀ p : Int, 0 ≤ p → p < y.1 → ¬ isOpener (Y.LB (rd C p)) ∧ Y.LB (rd C p) ≠ 22 ∧ Y.LB (rd C p) ≠ 10 ∧ Y.LB (rd C p) ≠ 11) ∧ (y.2 = true → ∃ p : Int, 0 ≤ p ∧ p < y.1 ∧ Y.LB (rd C p) ≠ 12 ∧ ¬ isRemoved (Y.LB (rd C p))))
      (fun y => C.length - y.1) (0, false) ?_ ⟨hn2, hM2, Nat.zero_le _, fun p a b => by dsimp only at b; omega, fun h => by cases h⟩ ?_
    · exact ⟨rfl, rfl, rfl, rfl, rfl, rfl, rfl, rfl, rfl, rfl, trivial⟩
    rintro ⟨k, sol⟩ g3 s3 ⟨hn3, hM3, hk3, hin, hsol⟩
    dsimp only at hn3 hM3 hk3 hin hsol ⊢
    refine WC.seq (WC.region ?_)
    refine cO (SV.lss rfl rfl ?_)
    refine WO.nil ?_
    refine WC.seq ?_
    refine WC.condD rfl (fun hl3 hl3b => ?_) (fun hl3 hl3b => ?_)
    · have hrC2 := hrC
      obtain ⟨ν, o, f, rfl, hν, hf⟩ := hrC k (by omega) (by omega)
      have hnew : ∀ (sol' : Bool) (s9 : St), s.next ≤ s9.next → Models ro s9 HB → (¬ isOpener (Y.LB (rd C k)) ∧ Y.LB (rd C k) ≠ 22 ∧ Y.LB (rd C k) ≠ 10 ∧ Y.LB (rd C k) ≠ 11) → (sol' = true → sol = true ∨ (Y.LB (rd C k) ≠ 12 ∧ ¬ isRemoved (Y.LB (rd C k)))) →
          s.next ≤ s9.next ∧ Models ro s9 HB ∧ k + 1 ≤ C.length ∧ (∀ p : Int, 0 ≤ p → p < (k + 1 : Nat) → ¬ isOpener (Y.LB (rd C p)) ∧ Y.LB (rd C p) ≠ 22 ∧ Y.LB (rd C p) ≠ 10 ∧ Y.LB (rd C p) ≠ 11) ∧ (sol' = true → ∃ p : Int, 0 ≤ p ∧ p < (k + 1 : Nat) ∧ Y.LB (rd C p) ≠ 12 ∧ ¬ isRemoved (Y.LB (rd C p))) := fun sol' s9 h1 h2 h3 h4 => by
        refine ⟨h1, h2, by omega, fun p a b => ?_, fun h => ?_⟩
        · by_cases e : p = k
          · rw [e]; exact h3
          · exact hin p a (by omega)
        · rcases h4 h with h5 | h5
          · obtain ⟨p, p1, p2, p3⟩ := hsol h5
            exact ⟨p, p1, by omega, p3⟩
          · exact ⟨k, by omega, by omega, h5⟩
      refine WC.skip (WC.seq (WC.block (WC.seq (WC.region ?_))))
      refine cO (SV.indexAddr rfl rfl (by omega) ?_)
      refine cO (SV.loadR (by assumption) rfl (by assumption) (by assumption) ?_)
      refine asO ?_
      refine WO.nil ?_
      refine WC.seq (WC.region ?_)
      refine mvO ?_
      refine cO ?_
      refine SV.callM rfl rfl (class_sp hX hM3) ?_
      rintro v s4 H4 hn4 hM4 ⟨rfl, eH⟩
      rw [eH] at hM4
      clear eH
      refine asO ?_
      refine WO.nil ?_
      generalize Y.LB (rd C k) = cl at hnew ⊢
      refine WC.seq (WC.seq (WC.region ?_))
      refine mvO ?_
      refine cO ?_
      refine SV.callM rfl rfl (opens_sp hX0 hM4) ?_
      rintro v s5 H5 hn5 hM5 ⟨rfl, eH⟩
      rw [eH] at hM5
      clear eH
      by_cases hop : isOpener cl
      · have hod : decide (isOpener cl) = true := decide_eq_true hop
        refine mvO ?_
        refine gnO ?_
        all_goals refine gnO ?_
        all_goals refine cO (pT ?_)
        all_goals refine mvO ?_
        all_goals refine WO.guardN rfl rfl rfl (by rfl) ?_ (by decide)
        all_goals refine WO.guardN rfl rfl rfl (by rfl) ?_ (by decide)
        all_goals refine cO (SV.pickTV rfl (by rfl) (by constructor) ?_)
        all_goals refine mvO ?_
        all_goals refine WO.guardN rfl rfl rfl (by rfl) ?_ (by decide)
        all_goals refine WO.guardN rfl rfl rfl (by rfl) ?_ (by decide)
        all_goals refine cO (SV.pickTV rfl (by rfl) (by constructor) ?_)
        all_goals refine WO.nil ?_
        refine WC.condT rfl (by rfl) (WC.seq ?_)
        refine WC.region ?_
        refine asO ?_
        refine WO.nil ?_
        refine WC.ret ?_
        exact fin_one (e := .ret) (v := .bool true) rfl trivial rfl (by omega) hM5 rfl
      have hod : decide (isOpener cl) = false := decide_eq_false hop
      by_cases c22 : cl = 22
      · have hd22 : decide (cl = 22) = true := decide_eq_true c22
        refine mvO ?_
        refine gyO (SV.moveV (by constructor) ?_)
        all_goals refine gyO (SV.eqlI rfl rfl ?_)
        all_goals refine cO (pF ?_)
        all_goals refine mvO ?_
        all_goals refine gnO ?_
        all_goals refine gnO ?_
        all_goals refine cO (pT ?_)
        all_goals refine mvO ?_
        all_goals refine WO.guardN rfl rfl rfl (by rfl) ?_ (by decide)
        all_goals refine WO.guardN rfl rfl rfl (by rfl) ?_ (by decide)
        all_goals refine cO (SV.pickTV rfl (by rfl) (by constructor) ?_)
        all_goals refine WO.nil ?_
        refine WC.condT rfl (by rfl) (WC.seq ?_)
        refine WC.region ?_
        refine asO ?_
        refine WO.nil ?_
        refine WC.ret ?_
        exact fin_one (e := .ret) (v := .bool true) rfl trivial rfl (by omega) hM5 rfl
      have hd22 : decide (cl = 22) = false := decide_eq_false c22
      by_cases c10 : cl = 10
      · have hd10 : decide (cl = 10) = true := decide_eq_true c10
        refine mvO ?_
        refine gyO (SV.moveV (by constructor) ?_)
        all_goals refine gyO (SV.eqlI rfl rfl ?_)
        all_goals refine cO (pF ?_)
        all_goals refine mvO ?_
        all_goals refine gyO (SV.moveV (by constructor) ?_)
        all_goals refine gyO (SV.eqlI rfl rfl ?_)
        all_goals refine cO (pF ?_)
        all_goals refine mvO ?_
        all_goals refine gnO ?_
        all_goals refine gnO ?_
        all_goals refine cO (pT ?_)
        all_goals refine WO.nil ?_
        refine WC.condT rfl (by rfl) (WC.seq ?_)
        refine WC.region ?_
        refine asO ?_
        refine WO.nil ?_
        refine WC.ret ?_
        exact fin_one (e := .ret) (v := .bool true) rfl trivial rfl (by omega) hM5 rfl
      have hd10 : decide (cl = 10) = false := decide_eq_false c10
      by_cases c11 : cl = 11
      · have hd11 : decide (cl = 11) = true := decide_eq_true c11
        refine mvO ?_
        refine gyO (SV.moveV (by constructor) ?_)
        all_goals refine gyO (SV.eqlI rfl rfl ?_)
        all_goals refine cO (pF ?_)
        all_goals refine mvO ?_
        all_goals refine gyO (SV.moveV (by constructor) ?_)
        all_goals refine gyO (SV.eqlI rfl rfl ?_)
        all_goals refine cO (pF ?_)
        all_goals refine mvO ?_
        all_goals refine gyO (SV.moveV (by constructor) ?_)
        all_goals refine gyO (SV.eqlI rfl rfl ?_)
        all_goals refine cO (pF ?_)
        all_goals refine WO.nil ?_
        refine WC.condT rfl (by assumption) (WC.seq ?_)
        refine WC.region ?_
        refine asO ?_
        refine WO.nil ?_
        refine WC.ret ?_
        exact fin_one (e := .ret) (v := .bool true) rfl trivial rfl (by omega) hM5 rfl
      have hd11 : decide (cl = 11) = false := decide_eq_false c11
      refine mvO ?_
      refine gyO (SV.moveV (by constructor) ?_)
      all_goals refine gyO (SV.eqlI rfl rfl ?_)
      all_goals refine cO (pF ?_)
      all_goals refine mvO ?_
      all_goals refine gyO (SV.moveV (by constructor) ?_)
      all_goals refine gyO (SV.eqlI rfl rfl ?_)
      all_goals refine cO (pF ?_)
      all_goals refine mvO ?_
      all_goals refine gyO (SV.moveV (by constructor) ?_)
      all_goals refine gyO (SV.eqlI rfl rfl ?_)
      all_goals refine cO (pF ?_)
      all_goals refine WO.nil ?_
      refine WC.condF rfl (by assumption) (WC.skip ?_)
      have hok : ¬ isOpener cl ∧ cl ≠ 22 ∧ cl ≠ 10 ∧ cl ≠ 11 := ⟨hop, c22, c10, c11⟩
      cases sol with
      | true =>
        refine WC.region ?_
        refine mvO ?_
        refine mvO ?_
        refine WO.guardN rfl rfl rfl (by rfl) ?_ (by decide)
        all_goals refine WO.guardN rfl rfl rfl (by rfl) ?_ (by decide)
        all_goals refine WO.guardN rfl rfl rfl (by rfl) ?_ (by decide)
        all_goals refine WO.guardU rfl rfl rfl ?_ (by decide)
        all_goals refine WO.guardU rfl rfl rfl ?_ (by decide)
        refine WO.guardU rfl rfl rfl ?_ (by decide)
        all_goals refine WO.guardN rfl rfl rfl (by rfl) ?_ (by decide)
        all_goals refine cO (SV.pickTV rfl (by rfl) (by constructor) ?_)
        all_goals refine asO ?_
        all_goals refine WO.nil ?_
        refine WC.region ?_
        refine cO (adI ?_)
        refine mvO ?_
        refine WO.nil ?_
        exact ⟨rfl, (k + 1, true), ⟨rfl, rfl, rfl, rfl, rfl, rfl, rfl, rfl, rfl, rfl, trivial⟩, hnew true _ (by omega) hM5 hok (fun _ => .inl rfl), by dsimp only; omega⟩
      | false =>
        by_cases c12 : cl = 12
        · have hd12 : decide (cl ≠ 12) = false := decide_eq_false (fun h => h c12)
          refine WC.region ?_
          refine mvO ?_
          refine mvO ?_
          refine WO.guardY rfl rfl rfl (by rfl) (SV.moveV (by constructor) ?_) (by decide)
          all_goals refine WO.guardY rfl rfl rfl (by rfl) (SV.neqI rfl rfl ?_) (by decide)
          all_goals refine WO.guardY rfl rfl rfl (by rfl) (SV.moveV (by constructor) ?_) (by decide)
          all_goals refine gnO ?_
          all_goals refine gnO ?_
          refine gnO ?_
          all_goals refine WO.guardY rfl rfl rfl (by rfl) (pF ?_) (by decide)
          all_goals refine cO (SV.pickFV rfl (by rfl) (by constructor) ?_)
          all_goals refine asO ?_
          all_goals refine WO.nil ?_
          refine WC.region ?_
          refine cO (adI ?_)
          refine mvO ?_
          refine WO.nil ?_
          exact ⟨rfl, (k + 1, false), ⟨rfl, rfl, rfl, rfl, rfl, rfl, rfl, rfl, rfl, rfl, trivial⟩, hnew false _ (by omega) hM5 hok (fun h => by cases h), by dsimp only; omega⟩
        · have hd12 : decide (cl ≠ 12) = true := decide_eq_true c12
          refine WC.region ?_
          refine mvO ?_
          refine mvO ?_
          refine WO.guardY rfl rfl rfl (by rfl) (SV.moveV (by constructor) ?_) (by decide)
          all_goals refine WO.guardY rfl rfl rfl (by rfl) (SV.neqI rfl rfl ?_) (by decide)
          all_goals refine WO.guardY rfl rfl rfl (by rfl) (SV.moveV (by constructor) ?_) (by decide)
          all_goals refine gyO (SV.moveV (by constructor) ?_)
          all_goals refine gyO ?_
          refine SV.callM rfl rfl (gone_sp hX0 hM5) ?_
          rintro v s6 H6 hn6 hM6 ⟨rfl, eH⟩
          rw [eH] at hM6
          clear eH
          by_cases hrm : isRemoved cl
          · have hrd : decide (isRemoved cl) = true := decide_eq_true hrm
            refine gyO (SV.notT rfl (by assumption) ?_)
            all_goals refine WO.guardY rfl rfl rfl (by rfl) (pT ?_) (by decide)
            all_goals refine cO (SV.pickFV rfl (by rfl) (by constructor) ?_)
            all_goals refine asO ?_
            all_goals refine WO.nil ?_
            refine WC.region ?_
            refine cO (adI ?_)
            refine mvO ?_
            refine WO.nil ?_
            exact ⟨rfl, (k + 1, false), ⟨rfl, rfl, rfl, rfl, rfl, rfl, rfl, rfl, rfl, rfl, trivial⟩, hnew false _ (by omega) hM6 hok (fun h => by cases h), by dsimp only; omega⟩
          · have hrd : decide (isRemoved cl) = false := decide_eq_false hrm
            refine gyO (SV.notF rfl (by assumption) ?_)
            all_goals refine WO.guardY rfl rfl rfl (by rfl) (pT ?_) (by decide)
            all_goals refine cO (SV.pickFV rfl (by rfl) (by constructor) ?_)
            all_goals refine asO ?_
            all_goals refine WO.nil ?_
            refine WC.region ?_
            refine cO (adI ?_)
            refine mvO ?_
            refine WO.nil ?_
            exact ⟨rfl, (k + 1, true), ⟨rfl, rfl, rfl, rfl, rfl, rfl, rfl, rfl, rfl, rfl, trivial⟩, hnew true _ (by omega) hM6 hok (fun _ => .inr ⟨c12, hrm⟩), by dsimp only; omega⟩
    obtain rfl : k = C.length := by omega
    refine WC.exit (WC.seq ?_)
    refine WC.region ?_
    refine mvO ?_
    refine cO (SV.not rfl ?_)
    refine WO.nil ?_
    cases sol with
    | false =>
      refine WC.condT rfl (by rfl) (WC.seq ?_)
      refine WC.region ?_
      refine asO ?_
      refine WO.nil ?_
      refine WC.ret ?_
      exact fin_one (e := .ret) (v := .bool true) rfl trivial rfl (by omega) hM3 rfl
    | true =>
      refine WC.condF rfl (by rfl) (WC.skip ?_)
      refine WC.region ?_
      refine cO (adI ?_)
      refine mvO ?_
      refine WO.nil ?_
      have hI := hnext ⟨hin, hsol rfl⟩
      exact ⟨rfl, x + 1, ⟨rfl, rfl, rfl, rfl, rfl, rfl, trivial⟩, ⟨by omega, hM3, by omega, hI.1, hI.2⟩, by omega⟩
  have hIb := hIb (by omega)
  have hIc := hIc (by omega)
  refine WC.exit (WC.seq (WC.seq ?_))
  obtain ⟨hbA, hbB, hbC, hbD⟩ := hbig
  clear hr2 hr3
  by_cases hbCa : (3000 : Int) < Ca.length
  · have hdCa : decide ((3000 : Int) < Ca.length) = true := decide_eq_true hbCa
    refine WC.region ?_
    refine mvO ?_
    refine cO (SV.len rfl rfl ?_)
    refine cO (SV.gtr rfl rfl ?_)
    refine mvO ?_
    refine gnO ?_
    all_goals refine gnO ?_
    all_goals refine gnO ?_
    all_goals refine cO (pT ?_)
    all_goals refine mvO ?_
    all_goals refine WO.guardN rfl rfl rfl (by rfl) ?_ (by decide)
    all_goals refine WO.guardN rfl rfl rfl (by rfl) ?_ (by decide)
    all_goals refine WO.guardN rfl rfl rfl (by rfl) ?_ (by decide)
    all_goals refine cO (SV.pickTV rfl (by rfl) (by constructor) ?_)
    all_goals refine mvO ?_
    all_goals refine WO.guardN rfl rfl rfl (by rfl) ?_ (by decide)
    all_goals refine WO.guardN rfl rfl rfl (by rfl) ?_ (by decide)
    all_goals refine WO.guardN rfl rfl rfl (by rfl) ?_ (by decide)
    all_goals refine cO (SV.pickTV rfl (by rfl) (by constructor) ?_)
    all_goals refine WO.nil ?_
    refine WC.condT rfl (by rfl) (WC.seq ?_)
    refine WC.region ?_
    refine asO ?_
    refine WO.nil ?_
    refine WC.ret ?_
    exact fin_one (e := .ret) (v := .bool true) rfl trivial rfl (by omega) hM2 rfl
  have hdCa : decide ((3000 : Int) < Ca.length) = false := decide_eq_false hbCa
  by_cases hbCb : (3000 : Int) < Cb.length
  · have hdCb : decide ((3000 : Int) < Cb.length) = true := decide_eq_true hbCb
    refine WC.region ?_
    refine mvO ?_
    refine cO (SV.len rfl rfl ?_)
    refine cO (SV.gtr rfl rfl ?_)
    refine mvO ?_
    refine gyO (SV.moveV (by constructor) ?_)
    all_goals refine gyO (SV.len rfl rfl ?_)
    all_goals refine gyO (SV.gtr rfl rfl ?_)
    all_goals refine cO (pF ?_)
    all_goals refine mvO ?_
    all_goals refine gnO ?_
    all_goals refine gnO ?_
    all_goals refine gnO ?_
    all_goals refine cO (pT ?_)
    all_goals refine mvO ?_
    all_goals refine WO.guardN rfl rfl rfl (by rfl) ?_ (by decide)
    all_goals refine WO.guardN rfl rfl rfl (by rfl) ?_ (by decide)
    all_goals refine WO.guardN rfl rfl rfl (by rfl) ?_ (by decide)
    all_goals refine cO (SV.pickTV rfl (by rfl) (by constructor) ?_)
    all_goals refine WO.nil ?_
    refine WC.condT rfl (by rfl) (WC.seq ?_)
    refine WC.region ?_
    refine asO ?_
    refine WO.nil ?_
    refine WC.ret ?_
    exact fin_one (e := .ret) (v := .bool true) rfl trivial rfl (by omega) hM2 rfl
  have hdCb : decide ((3000 : Int) < Cb.length) = false := decide_eq_false hbCb
  by_cases hbCc : (3000 : Int) < Cc.length
  · have hdCc : decide ((3000 : Int) < Cc.length) = true := decide_eq_true hbCc
    refine WC.region ?_
    refine mvO ?_
    refine cO (SV.len rfl rfl ?_)
    refine cO (SV.gtr rfl rfl ?_)
    refine mvO ?_
    refine gyO (SV.moveV (by constructor) ?_)
    all_goals refine gyO (SV.len rfl rfl ?_)
    all_goals refine gyO (SV.gtr rfl rfl ?_)
    all_goals refine cO (pF ?_)
    all_goals refine mvO ?_
    all_goals refine gyO (SV.moveV (by constructor) ?_)
    all_goals refine gyO (SV.len rfl rfl ?_)
    all_goals refine gyO (SV.gtr rfl rfl ?_)
    all_goals refine cO (pF ?_)
    all_goals refine mvO ?_
    all_goals refine gnO ?_
    all_goals refine gnO ?_
    all_goals refine gnO ?_
    all_goals refine cO (pT ?_)
    all_goals refine WO.nil ?_
    refine WC.condT rfl (by rfl) (WC.seq ?_)
    refine WC.region ?_
    refine asO ?_
    refine WO.nil ?_
    refine WC.ret ?_
    exact fin_one (e := .ret) (v := .bool true) rfl trivial rfl (by omega) hM2 rfl
  have hdCc : decide ((3000 : Int) < Cc.length) = false := decide_eq_false hbCc
  by_cases hbCd : (3000 : Int) < Cd.length
  · have hdCd : decide ((3000 : Int) < Cd.length) = true := decide_eq_true hbCd
    refine WC.region ?_
    refine mvO ?_
    refine cO (SV.len rfl rfl ?_)
    refine cO (SV.gtr rfl rfl ?_)
    refine mvO ?_
    refine gyO (SV.moveV (by constructor) ?_)
    all_goals refine gyO (SV.len rfl rfl ?_)
    all_goals refine gyO (SV.gtr rfl rfl ?_)
    all_goals refine cO (pF ?_)
    all_goals refine mvO ?_
    all_goals refine gyO (SV.moveV (by constructor) ?_)
    all_goals refine gyO (SV.len rfl rfl ?_)
    all_goals refine gyO (SV.gtr rfl rfl ?_)
    all_goals refine cO (pF ?_)
    all_goals refine mvO ?_
    all_goals refine gyO (SV.moveV (by constructor) ?_)
    all_goals refine gyO (SV.len rfl rfl ?_)
    all_goals refine gyO (SV.gtr rfl rfl ?_)
    all_goals refine cO (pF ?_)
    all_goals refine WO.nil ?_
    refine WC.condT rfl (by assumption) (WC.seq ?_)
    refine WC.region ?_
    refine asO ?_
    refine WO.nil ?_
    refine WC.ret ?_
    exact fin_one (e := .ret) (v := .bool true) rfl trivial rfl (by omega) hM2 rfl
  have hdCd : decide ((3000 : Int) < Cd.length) = false := decide_eq_false hbCd
  refine WC.region ?_
  refine mvO ?_
  refine cO (SV.len rfl rfl ?_)
  refine cO (SV.gtr rfl rfl ?_)
  refine mvO ?_
  refine gyO (SV.moveV (by constructor) ?_)
  all_goals refine gyO (SV.len rfl rfl ?_)
  all_goals refine gyO (SV.gtr rfl rfl ?_)
  all_goals refine cO (pF ?_)
  all_goals refine mvO ?_
  all_goals refine gyO (SV.moveV (by constructor) ?_)
  all_goals refine gyO (SV.len rfl rfl ?_)
  all_goals refine gyO (SV.gtr rfl rfl ?_)
  all_goals refine cO (pF ?_)
  all_goals refine mvO ?_
  all_goals refine gyO (SV.moveV (by constructor) ?_)
  all_goals refine gyO (SV.len rfl rfl ?_)
  all_goals refine gyO (SV.gtr rfl rfl ?_)
  all_goals refine cO (pF ?_)
  all_goals refine WO.nil ?_
  refine WC.condF rfl (by assumption) (WC.skip (WC.seq ?_))
  refine WC.region ?_
  refine cO (SV.buildSliceM (by assumption) rfl rfl (fun a31_0 s31_0 hf31_0 hne31_0 hn31_0 hM31_0 => ?_))
  refine mvO ?_
  refine cO ?_
  refine SV.appendM (t := 23) (u := 23) (e := 3) (e' := 3) (sz := 1) (sz' := 1) (bytes := 8) (z := [.int .i64 0]) (n := 0) (m := Ca.length) (vs := []) (xs := Ca.map (.int .i64)) rfl (by assumption) rfl rfl (.inr ⟨a31_0, 0, [], rfl, Hp.up_same, rfl, Nat.le_refl _, rfl⟩)
    (hsrc0 _ (fun ν o e => Hp.up_ne (hne31_0 _ _ (hkB _ _ e)) (hkB _ _ e))) rfl (by omega) (fun v4 s4 H4 hn4 hM4 hv4 hk4 hnew4 hex4 => ?_)
  obtain ⟨a4, rfl, ha4, hkp4⟩ := app_fresh hne31_0 rfl hk4 hnew4 hex4
  clear hv4 hk4 hnew4 hex4 hM31_0
  refine cO (SV.buildSliceM (by assumption) rfl rfl (fun a31_3 s31_3 hf31_3 hne31_3 hn31_3 hM31_3 => ?_))
  refine cO ?_
  have hM8b : Models ro s31_3 (H4.up a31_3 (.row 1 [.int .i64 8294])) := hM31_3
  refine SV.appendM (t := 23) (u := 23) (e := 3) (e' := 3) (sz := 1) (sz' := 1) (bytes := 8) (z := [.int .i64 0]) (n := Ca.length) (m := 1) (vs := Ca.map (.int .i64)) (xs := [.int .i64 8294]) rfl hM8b rfl rfl (SlO.ofRow (Hp.up_ne (hne31_3 _ _ ha4) ha4) (by rw [List.length_map, Nat.mul_one]))
    (Src.row Hp.up_same rfl rfl (fun j v h => by rw [Nat.zero_add]; exact h)) rfl (by omega) (fun v5 s5 H5 hn5 hM5 hv5 hk5 hnew5 hex5 => ?_)
  obtain ⟨a5, rfl, ha5, hkp5⟩ := app_one ha4 rfl hne31_3 hk5 hnew5 hex5
  clear hv5 hk5 hnew5 hex5 hM8b hM31_3 hM4
  have hkA5 : ∀ ν o, H ν = some o → H5 ν = some o := fun ν o e => (hkp5 ν o (hkp4 ν o (hkB ν o e)).1 (hkp4 ν o (hkB ν o e)).2).1
  have hl1 : (Ca ++ [8294]).length = Ca.length + 1 := by simp
  generalize hC1 : Ca ++ [8294] = C1 at ha5 hl1
  clear hkp4 hkp5 ha4
  refine asO ?_
  refine WO.nil ?_
  refine WC.seq (WC.region ?_)
  refine cO (SV.buildSliceM (by assumption) rfl rfl (fun a32_0 s32_0 hf32_0 hne32_0 hn32_0 hM32_0 => ?_))
  refine mvO ?_
  refine cO ?_
  have hM9b : Models ro s32_0 (H5.up a32_0 (.row 1 [.int .i64 8297])) := hM32_0
  refine SV.appendM (t := 23) (u := 23) (e := 3) (e' := 3) (sz := 1) (sz' := 1) (bytes := 8) (z := [.int .i64 0]) (n := 1) (m := Cd.length) (vs := [.int .i64 8297]) (xs := Cd.map (.int .i64)) rfl hM9b rfl rfl (SlO.ofRow Hp.up_same rfl)
    (hsrc1 _ (fun ν o e => Hp.up_ne (hne32_0 _ _ (hkA5 _ _ e)) (hkA5 _ _ e))) rfl (by omega) (fun v6 s6 H6 hn6 hM6 hv6 hk6 hnew6 hex6 => ?_)
  obtain ⟨a6, rfl, ha6, hkp6⟩ := app_more (n := 1) (m := Cd.length) (O := [8297]) (B := Cd) (H := H5.up a32_0 (.row 1 [.int .i64 8297])) Hp.up_same rfl rfl hk6 hnew6 hex6
  clear hv6 hk6 hnew6 hex6 hM9b hM32_0
  have hk56 : ∀ ν o, H5 ν = some o → H6 ν = some o := fun ν o e => (hkp6 ν o (Hp.up_ne (hne32_0 _ _ e) e) (hne32_0 _ _ e)).1
  have hl2 : ([8297] ++ Cd).length = 1 + Cd.length := by simp; omega
  generalize hC2 : [8297] ++ Cd = C2 at ha6 hl2
  have h65 := hk56 _ _ ha5
  have hkA6 : ∀ ν o, H ν = some o → H6 ν = some o := fun ν o e => hk56 _ _ (hkA5 ν o e)
  clear hkp6 hM5
  refine asO ?_
  refine WO.nil ?_
  refine WC.seq (WC.region ?_)
  refine cO (SV.buildSliceM (by assumption) rfl rfl (fun a33_0 s33_0 hf33_0 hne33_0 hn33_0 hM33_0 => ?_))
  refine mvO ?_
  refine cO ?_
  refine SV.appendM (t := 23) (u := 23) (e := 3) (e' := 3) (sz := 1) (sz' := 1) (bytes := 8) (z := [.int .i64 0]) (n := 0) (m := Ca.length + 1) (vs := []) (xs := C1.map (.int .i64)) rfl (by assumption) rfl rfl (.inr ⟨a33_0, 0, [], rfl, Hp.up_same, rfl, Nat.le_refl _, rfl⟩)
    (Src.row (Hp.up_ne (hne33_0 _ _ h65) h65) (by rw [List.length_map, hl1, Nat.mul_one]) (by rw [List.all_map]; simp [oneC]) (fun i v h => by rw [Nat.zero_add]; exact h)) rfl (by omega) (fun vP1 sP1 HP1 hnP1 hMP1 hvP1 hkP1 hnewP1 hexP1 => ?_)
  obtain ⟨aP1, rfl, haP1, hkpP1⟩ := app_fresh hne33_0 hl1 hkP1 hnewP1 hexP1
  clear hvP1 hkP1 hnewP1 hexP1 hM33_0
  refine mvO ?_
  refine cO ?_
  refine SV.appendM (t := 23) (u := 23) (e := 3) (e' := 3) (sz := 1) (sz' := 1) (bytes := 8) (z := [.int .i64 0]) (n := Ca.length + 1) (m := Cb.length) (vs := C1.map (.int .i64)) (xs := Cb.map (.int .i64)) rfl hMP1 rfl rfl (SlO.ofRow haP1 (by rw [List.length_map, hl1, Nat.mul_one]))
    (hsrc2 _ (fun ν o e => (hkpP1 _ _ (hkA6 ν o e)).1)) rfl (by omega) (fun vP2 sP2 HP2 hnP2 hMP2 hvP2 hkP2 hnewP2 hexP2 => ?_)
  obtain ⟨aP2, rfl, haP2, hkpP2⟩ := app_more haP1 hl1 rfl hkP2 hnewP2 hexP2
  clear hvP2 hkP2 hnewP2 hexP2 hMP1
  refine mvO ?_
  refine cO ?_
  have h6P := (hkpP2 _ _ (hkpP1 _ _ ha6).1 (hkpP1 _ _ ha6).2).1
  refine SV.appendM (t := 23) (u := 23) (e := 3) (e' := 3) (sz := 1) (sz' := 1) (bytes := 8) (z := [.int .i64 0]) (n := Ca.length + 1 + Cb.length) (m := 1 + Cd.length) (vs := (C1 ++ Cb).map (.int .i64)) (xs := C2.map (.int .i64)) rfl hMP2 rfl rfl (SlO.ofRow haP2 (by rw [List.length_map, List.length_append, hl1, Nat.mul_one]))
    (Src.row h6P (by rw [List.length_map, hl2, Nat.mul_one]) (by rw [List.all_map]; simp [oneC]) (fun i v h => by rw [Nat.zero_add]; exact h)) rfl (by omega) (fun vP3 sP3 HP3 hnP3 hMP3 hvP3 hkP3 hnewP3 hexP3 => ?_)
  obtain ⟨aP3, rfl, haP3, hkpP3⟩ := app_more haP2 (by rw [List.length_append, hl1]) hl2 hkP3 hnewP3 hexP3
  clear hvP3 hkP3 hnewP3 hexP3 hMP2 h6P
  have hkeepP : ∀ ν o, H6 ν = some o → HP3 ν = some o := fun ν o e => (hkpP3 _ _ (hkpP2 _ _ (hkpP1 ν o e).1 (hkpP1 ν o e).2).1 (hkpP2 _ _ (hkpP1 ν o e).1 (hkpP1 ν o e).2).2).1
  clear hkpP1 hkpP2 hkpP3 haP1 haP2
  refine asO ?_
  refine WO.nil ?_
  have h65q := hkeepP _ _ h65
  have ha6q := hkeepP _ _ ha6
  have hkAq : ∀ ν o, H ν = some o → HP3 ν = some o := fun ν o e => hkeepP _ _ (hkA6 ν o e)
  refine WC.seq (WC.region ?_)
  refine cO (SV.buildSliceM (by assumption) rfl rfl (fun a34_0 s34_0 hf34_0 hne34_0 hn34_0 hM34_0 => ?_))
  refine mvO ?_
  refine cO ?_
  refine SV.appendM (t := 23) (u := 23) (e := 3) (e' := 3) (sz := 1) (sz' := 1) (bytes := 8) (z := [.int .i64 0]) (n := 0) (m := Ca.length + 1) (vs := []) (xs := C1.map (.int .i64)) rfl (by assumption) rfl rfl (.inr ⟨a34_0, 0, [], rfl, Hp.up_same, rfl, Nat.le_refl _, rfl⟩)
    (Src.row (Hp.up_ne (hne34_0 _ _ h65q) h65q) (by rw [List.length_map, hl1, Nat.mul_one]) (by rw [List.all_map]; simp [oneC]) (fun i v h => by rw [Nat.zero_add]; exact h)) rfl (by omega) (fun vQ1 sQ1 HQ1 hnQ1 hMQ1 hvQ1 hkQ1 hnewQ1 hexQ1 => ?_)
  obtain ⟨aQ1, rfl, haQ1, hkpQ1⟩ := app_fresh hne34_0 hl1 hkQ1 hnewQ1 hexQ1
  clear hvQ1 hkQ1 hnewQ1 hexQ1 hM34_0
  refine mvO ?_
  refine cO ?_
  refine SV.appendM (t := 23) (u := 23) (e := 3) (e' := 3) (sz := 1) (sz' := 1) (bytes := 8) (z := [.int .i64 0]) (n := Ca.length + 1) (m := Cc.length) (vs := C1.map (.int .i64)) (xs := Cc.map (.int .i64)) rfl hMQ1 rfl rfl (SlO.ofRow haQ1 (by rw [List.length_map, hl1, Nat.mul_one]))
    (hsrc3 _ (fun ν o e => (hkpQ1 _ _ (hkAq ν o e)).1)) rfl (by omega) (fun vQ2 sQ2 HQ2 hnQ2 hMQ2 hvQ2 hkQ2 hnewQ2 hexQ2 => ?_)
  obtain ⟨aQ2, rfl, haQ2, hkpQ2⟩ := app_more haQ1 hl1 rfl hkQ2 hnewQ2 hexQ2
  clear hvQ2 hkQ2 hnewQ2 hexQ2 hMQ1
  refine mvO ?_
  refine cO ?_
  have h6Q := (hkpQ2 _ _ (hkpQ1 _ _ ha6q).1 (hkpQ1 _ _ ha6q).2).1
  refine SV.appendM (t := 23) (u := 23) (e := 3) (e' := 3) (sz := 1) (sz' := 1) (bytes := 8) (z := [.int .i64 0]) (n := Ca.length + 1 + Cc.length) (m := 1 + Cd.length) (vs := (C1 ++ Cc).map (.int .i64)) (xs := C2.map (.int .i64)) rfl hMQ2 rfl rfl (SlO.ofRow haQ2 (by rw [List.length_map, List.length_append, hl1, Nat.mul_one]))
    (Src.row h6Q (by rw [List.length_map, hl2, Nat.mul_one]) (by rw [List.all_map]; simp [oneC]) (fun i v h => by rw [Nat.zero_add]; exact h)) rfl (by omega) (fun vQ3 sQ3 HQ3 hnQ3 hMQ3 hvQ3 hkQ3 hnewQ3 hexQ3 => ?_)
  obtain ⟨aQ3, rfl, haQ3, hkpQ3⟩ := app_more haQ2 (by rw [List.length_append, hl1]) hl2 hkQ3 hnewQ3 hexQ3
  clear hvQ3 hkQ3 hnewQ3 hexQ3 hMQ2 h6Q
  have hkeepQ : ∀ ν o, HP3 ν = some o → HQ3 ν = some o := fun ν o e => (hkpQ3 _ _ (hkpQ2 _ _ (hkpQ1 ν o e).1 (hkpQ1 ν o e).2).1 (hkpQ2 _ _ (hkpQ1 ν o e).1 (hkpQ1 ν o e).2).2).1
  clear hkpQ1 hkpQ2 hkpQ3 haQ1 haQ2
  refine asO ?_
  refine WO.nil ?_
  refine WC.seq (WC.region ?_)
  refine mvO ?_
  refine cO ?_
  refine SV.callM rfl rfl (levels_spI (b := 0) (n := Ca.length + 1 + Cb.length + (1 + Cd.length)) hX hMQ3 (hkeepQ _ _ haP3) (by simp only [List.length_append, hl1, hl2]) (by omega) (by omega)) ?_
  rintro v s10 H10 hn10 hM10 ⟨l1, c1, rfl, hkp10, hr1, hL1⟩
  refine mvO ?_
  refine cO (SV.extract rfl rfl ?_)
  refine cO (SV.extract rfl rfl ?_)
  refine asO ?_
  refine asO ?_
  refine WO.nil ?_
  refine WC.seq (WC.region ?_)
  refine mvO ?_
  refine cO ?_
  refine SV.callM rfl rfl (levels_spI (b := 0) (n := Ca.length + 1 + Cc.length + (1 + Cd.length)) hX hM10 (hkp10 _ _ haQ3).1 (by simp only [List.length_append, hl1, hl2]) (by omega) (by omega)) ?_
  rintro v s11 H11 hn11 hM11 ⟨l2, c2, rfl, hkp11, hr2, hL2⟩
  refine mvO ?_
  refine cO (SV.extract rfl rfl ?_)
  refine cO (SV.extract rfl rfl ?_)
  refine asO ?_
  refine asO ?_
  refine WO.nil ?_
  have hr1 := (hkp11 _ _ hr1).1
  obtain ⟨iA, iB⟩ := iso_text hX.perm hC1.symm hC2.symm hL hP hIb hIc hd60
  generalize levelsM Y (C1 ++ Cb ++ C2) 0 = LP at hr1 hL1 iA iB
  generalize levelsM Y (C1 ++ Cc ++ C2) 0 = LQ at hr2 hL2 iA iB
  refine WC.seq (WC.seq (WC.region ?_))
  refine mvO ?_
  refine cO (SV.neqI rfl rfl ?_)
  refine mvO ?_
  refine WO.guardY rfl rfl rfl (by rfl) (SV.moveV (by constructor) ?_) (by decide)
  all_goals refine WO.guardY rfl rfl rfl (by rfl) (SV.neqI rfl rfl ?_) (by decide)
  all_goals refine cO (SV.pickFV rfl (by rfl) (by constructor) ?_)
  all_goals refine WO.nil ?_
  refine WC.condF rfl (by rfl) (WC.skip (WC.seq ?_))
  refine WC.region ?_
  refine mvO ?_
  refine cO (SV.len rfl rfl ?_)
  refine mvO ?_
  refine cO (SV.len rfl rfl ?_)
  refine asO ?_
  refine asO ?_
  refine WO.nil ?_
  refine WC.seq ?_
  refine WC.dr [0, 1, 2, 3, 4, 5, 6, 7, 8, 9, 10, 11, 12, 13, 14, 15, 16, 17, 18, 19, 20, 21, 22] ?_
  refine mvD ?_
  refine mvD ?_
  refine cD ?_
  have hnC1 : C1.length = Ca.length + 1 := hl1
  refine SV.sliceUpto hM11 rfl hr1 rfl (by omega) ?_
  refine mvD ?_
  refine mvD ?_
  refine cD ?_
  refine SV.sliceUpto hM11 rfl hr2 rfl (by omega) ?_
  refine cD ?_
  refine SV.callM rfl rfl (same_sp3 (n := Ca.length + 1) (L := LP) hX0 hM11 hr1 hr2 (fun i a d => ?_) (fun i a d => ?_) (by omega)) ?_
  · exact ints_get0 a (by omega)
  · rw [← iA i a (by omega)]; exact ints_get0 a (by omega)
  rintro v s12 H12 hn12 hM12 ⟨rfl, eH⟩
  rw [eH] at hM12
  clear eH
  refine mvD ?_
  refine WD.guardY rfl rfl rfl (by rfl) (SV.moveV (by constructor) ?_) (by decide)
  all_goals refine WD.guardY rfl rfl rfl (by rfl) (SV.moveV (by constructor) ?_) (by decide)
  all_goals refine WD.guardY rfl rfl rfl (by rfl) (SV.len rfl rfl ?_) (by decide)
  all_goals refine WD.guardY rfl rfl rfl (by rfl) (SV.moveV (by constructor) ?_) (by decide)
  all_goals refine WD.guardY rfl rfl rfl (by rfl) (sbI ?_) (by decide)
  all_goals refine WD.guardY rfl rfl rfl (by rfl) ?_ (by decide)
  have hlP : (LP.length : Int) - (1 + Cd.length : Nat) = (C1.length + Cb.length : Nat) := by omega
  have hlQ : (LQ.length : Int) - (1 + Cd.length : Nat) = (C1.length + Cc.length : Nat) := by omega
  refine SV.sliceFrom (m := 1 + Cd.length) hM12 rfl hr1 rfl ⟨by omega, by omega, by omega⟩ (by omega) ?_
  refine WD.guardY rfl rfl rfl (by rfl) (SV.moveV (by constructor) ?_) (by decide)
  all_goals refine WD.guardY rfl rfl rfl (by rfl) (SV.moveV (by constructor) ?_) (by decide)
  all_goals refine WD.guardY rfl rfl rfl (by rfl) (SV.len rfl rfl ?_) (by decide)
  all_goals refine WD.guardY rfl rfl rfl (by rfl) (SV.moveV (by constructor) ?_) (by decide)
  all_goals refine WD.guardY rfl rfl rfl (by rfl) (sbI ?_) (by decide)
  all_goals refine WD.guardY rfl rfl rfl (by rfl) ?_ (by decide)
  refine SV.sliceFrom (m := 1 + Cd.length) hM12 rfl hr2 rfl ⟨by omega, by omega, by omega⟩ (by omega) ?_
  refine WD.guardY rfl rfl rfl (by rfl) ?_ (by decide)
  refine SV.callM rfl rfl (same_sp3 (n := 1 + Cd.length) (L := (List.range (1 + Cd.length)).map fun (q : Nat) => rd LP ((C1.length + Cb.length : Nat) + q)) hX0 hM12 hr1 hr2 (fun i a d => ?_) (fun i a d => ?_) (by omega)) ?_
  · have e := ints_get0 (L := LP) (i := (C1.length + Cb.length : Nat) + i) (by omega) (by omega)
    rw [rd_range a d]
    have e2 : ((i.toNat : Nat) : Int) = i := by omega
    rw [e2, ← e]; congr 1; omega
  · have e := ints_get0 (L := LQ) (i := (C1.length + Cc.length : Nat) + i) (by omega) (by omega)
    rw [rd_range a d]
    have e2 : ((i.toNat : Nat) : Int) = i := by omega
    rw [e2, ← iB i a (by omega), ← e]; congr 1; omega
  rintro v s13 H13 hn13 hM13 ⟨rfl, eH⟩
  rw [eH] at hM13
  clear eH
  refine cD (SV.pickTV rfl (by rfl) (by constructor) ?_)
  all_goals refine asD ?_
  all_goals refine WD.nil ?_
  refine WC.ret ?_
  exact fin_one (e := .ret) (v := .bool true) rfl trivial rfl (by omega) hM13 rfl
end Go.Proofs.Ythkklpegjcnjoaa
