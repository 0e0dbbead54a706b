/- A part of the proof: rules for walking code over the evaluator, and what the functions that were walked come to: no condition but those that each theorem states. -/
import Derived.Test.YtmlplblhabdbpaaUD
set_option linter.unusedVariables false
set_option linter.unusedSimpArgs false
namespace Go.Proofs.Ytmlplblhabdbpaa
open Go.Ab
variable {X : CallE} {ro : Nat}
set_option maxRecDepth 10000
set_option linter.unusedVariables false
set_option linter.unusedSimpArgs false

theorem sameE (e : Ed) : sameV 4 (.agg (encE e).toArray) (.agg (encE e).toArray) = true := by simp [sameV, sameV.sameVs, encE, eqI_self]
set_option maxHeartbeats 2000000 in
/-- raster.rows: a closure is told the spans, row by row. -/
theorem rows_sp {s : St} {H : Hp} {v fv : Value} {l : List Ed} {j0 j1 : Int} {B : Nat → Prop} {Iv : List Sn → Hp → Prop} {SM : List Cr → List Cr} (hX : OwnX X) (hE : ExtOk X ro SM) (hM : Models ro s H) (hv : SlO H v 5 l.length (l.flatMap encE)) (hl : l.length ≤ 16384)
    (hok : ∀ e ∈ l, e.Ok ∧ e.y0 < e.y1 ∧ (e.by' = 1 ∨ e.by' = -1)) (hs : Srt Ed.y0 l) (hz : ∀ j, sumB (crossM l j) = 0) (hj0 : -2147483648 ≤ j0) (hj01 : j0 ≤ j1) (hj1 : j1 ≤ 2147483648)
    (hS : Span X ro fv B Iv (spansM SM l j0 (j1 - j0).toNat)) (hI0 : Iv [] H) (hvB : ∀ μ, baseV v = some μ → ¬ B μ) :
    Sp X Try.prog ro 32 [v, .int .i64 j0, .int .i64 j1, fv] s fun r H' => r = .tuple #[] ∧ Iv (spansM SM l j0 (j1 - j0).toNat) H' ∧ ∀ ν o, ¬ B ν → H ν = some o → H' ν = some o := by
  obtain ⟨⟨fs, caps, rfl, hfn⟩, hfr, hpres⟩ := hS
  have hI : ∀ sp, OnB B (Iv sp) := fun sp => ⟨fun H H' => hfr sp H H', fun H ν => hpres sp H ν⟩
  refine Sp.of_body (hX _ _ _ (by decide) (by decide) (by decide) (by decide)) Try.func32 rfl Try.ntmps32 (by simp) ?_
  refine WC.seq ?_
  refine WC.region ?_
  refine WO.cons (SV.assignV (by constructor) ?_) (by decide)
  refine WO.nil ?_
  refine WC.seq ?_
  refine WC.region ?_
  refine WO.cons (SV.assignV (by constructor) ?_) (by decide)
  refine WO.nil ?_
  refine WC.seq ?_
  refine WC.region ?_
  refine WO.cons (SV.assignV (by constructor) ?_) (by decide)
  refine WO.nil ?_
  refine WC.seq ?_
  refine WC.region ?_
  refine WO.cons (SV.moveV (by constructor) ?_) (by decide)
  refine WO.cons (SV.allocM (by assumption) (fun a3_1 s3_1 hf3_1 hne3_1 hn3_1 hM3_1 => ?_)) (by decide)
  refine WO.cons0 (SV.storeV (by assumption) rfl (by constructor) (by exact Hp.up_same) (by (simp; done)) (fun s3_2 hn3_2 hM3_2 => ?_))
  refine WO.nil ?_
  rw [Hp.up_up] at hM3_2
  replace hM3_2 : Models ro s3_2 (H.up a3_1 (.row 0 [.int .i64 j0])) := hM3_2
  refine WC.block ?_
  refine WC.loop (D := Nat × List Ed × Value × Value × List Cr × Nat) (fun x => [(0, v), (2, .int .i64 j1), (3, .func (.func fs) #[] caps), (8, x.2.2.1), (9, x.2.2.2.1), (10, .int .i64 x.2.1.length), (11, .pointer (some ⟨x.2.2.2.2.2, 0, none⟩))])
    (fun x s1 => s.next ≤ s1.next ∧ ∃ H1 R, Models ro s1 H1 ∧ RS H H1 B (Iv (spansM SM l j0 x.1)) x.2.2.1 (x.2.1.filter (keepJ (j0 + x.1 - 1))) x.2.2.2.1 x.2.2.2.2.1 x.2.2.2.2.2 (j0 + x.1) ∧ l = x.2.1 ++ R ∧ (∀ e ∈ x.2.1, e.y0 ≤ j0 + x.1) ∧ x.1 ≤ (j1 - j0).toNat)
    (fun x => (j1 - j0).toNat - x.1) (0, [], .slice none 0 0, .slice none 0 0, [], a3_1) ?_ ⟨by omega, H.up a3_1 (.row 0 [.int .i64 j0]), l, hM3_2, ?_, rfl, (fun e h => by cases h), Nat.zero_le _⟩ ?_
  · exact ⟨rfl, rfl, rfl, rfl, rfl, rfl, rfl, trivial⟩
  · have hx : Ext H (H.up a3_1 (.row 0 [.int .i64 j0])) := ext_up hne3_1
    have hjn : H a3_1 = none := hf3_1
    exact { rw := ⟨fun ν o e _ => hx ν o e, hfr _ _ _ hI0 fun ν o _ e => hx ν o e, fun ν hB => hpres [] H ν hI0 hB⟩, jr := by rw [Hp.up_same]; simp, jn := hjn, a := .inl ⟨rfl, rfl, rfl⟩, an := (fun μ h => by cases h), aj := (fun h => by cases h), c := .inl ⟨rfl, rfl, rfl⟩, cn := (fun μ h => by cases h), cj := (fun h => by cases h), ac := (fun μ h => by cases h) }
  rintro ⟨i, A, va, vc, C, jb⟩ g s1 ⟨hn1, H1, R, hM1, hR1, hlA, hA, hi⟩
  dsimp only at hR1 hlA hA hi ⊢
  obtain ⟨j, hj⟩ : ∃ j, j = j0 + (i : Int) := ⟨_, rfl⟩
  rw [← hj] at hR1 hA
  have hjr := hR1.jr
  refine WC.seq (WC.seq ?_)
  refine WC.region ?_
  refine WO.cons (SV.loadM (by assumption) rfl (by assumption) (by rfl) ?_) (by decide)
  refine WO.cons (SV.moveV (by constructor) ?_) (by decide)
  refine WO.cons (SV.lss rfl rfl ?_) (by decide)
  refine WO.nil ?_
  refine WC.condD rfl (fun hlt hltb => ?_) (fun hlt hltb => ?_)
  · refine WC.skip (WC.seq (WC.block (WC.seq (WC.block ?_))))
    have hin : i < (j1 - j0).toNat := by omega
    have hlA' := congrArg List.length hlA
    rw [List.length_append] at hlA'
    refine WC.loop (D := List Ed × List Ed × List Ed × Value) (fun x => [(0, v), (2, .int .i64 j1), (3, .func (.func fs) #[] caps), (8, x.2.2.2), (9, vc), (10, .int .i64 x.1.length), (11, .pointer (some ⟨jb, 0, none⟩))])
      (fun x s2 => s.next ≤ s2.next ∧ ∃ H2, Models ro s2 H2 ∧ RS H H2 B (Iv (spansM SM l j0 i)) x.2.2.2 (A.filter (keepJ (j - 1)) ++ x.2.2.1) vc C jb j ∧ l = x.1 ++ x.2.1 ∧ x.1 = A ++ x.2.2.1 ∧ ∀ e ∈ x.1, e.y0 ≤ j)
      (fun x => x.2.1.length) (A, R, [], va) ?_ ⟨hn1, H1, hM1, by rw [List.append_nil]; exact hR1, hlA, (List.append_nil A).symm, hA⟩ ?_
    · exact ⟨rfl, rfl, rfl, rfl, rfl, rfl, rfl, trivial⟩
    clear hR1 hjr hM1 hn1 hlA' hlA
    rintro ⟨A1, R1, N, va1⟩ g s2 ⟨hn2, H2, hM2, hR2, hl1, hA1, hy1⟩
    dsimp only at hR2 hl1 hA1 hy1 ⊢
    have hl1' := congrArg List.length hl1
    rw [List.length_append] at hl1'
    have hA1' := congrArg List.length hA1
    rw [List.length_append] at hA1'
    have hjr := hR2.jr
    have hvv := hR2.edges hv hvB
    have hFl : (A.filter (keepJ (j - 1)) ++ N).length ≤ 16384 := by
      have := List.length_filter_le (keepJ (j - 1)) A
      rw [List.length_append]; omega
    by_cases hmore : ∃ r R', R1 = r :: R' ∧ r.y0 ≤ j
    · obtain ⟨r, R', rfl, hrj⟩ := hmore
      simp only [List.length_cons] at hl1'
      obtain ⟨ν, cv, rfl⟩ := hvv.nonnil (by omega)
      have hd1 : decide ((A1.length : Int) < (l.length : Int)) = true := decide_eq_true (by omega)
      have hd2 : decide (r.y0 ≤ j) = true := decide_eq_true hrj
      have hat : l[A1.length]? = some r := by rw [hl1]; exact get_mid rfl
      have hcl := SlO.cellE hvv rfl hat (f := 1) rfl
      refine WC.seq (WC.seq ?_)
      refine WC.draw [0, 1, 2, 3, 4, 5, 6, 7, 8, 9, 10, 11, 12] (by kernel_rfl) (by kernel_rfl) (by kernel_rfl) ?_
      refine WD.cons (SV.moveV (by constructor) ?_) (by decide)
      refine WD.cons (SV.moveV (by constructor) ?_) (by decide)
      refine WD.cons (SV.len rfl rfl ?_) (by decide)
      refine WD.cons (SV.lss rfl rfl ?_) (by decide)
      refine WD.cons (SV.moveV (by constructor) ?_) (by decide)
      refine WD.guardY rfl rfl rfl (by assumption) (SV.moveV (by constructor) ?_) (by decide)
      all_goals (refine WD.guardY rfl rfl rfl (by assumption) (SV.moveV (by constructor) ?_) (by decide))
      all_goals (refine WD.guardY rfl rfl rfl (by assumption) (SV.indexAddr rfl rfl (by omega) ?_) (by decide))
      all_goals (refine WD.guardY rfl rfl rfl (by assumption) (SV.fieldAddr rfl ?_) (by decide))
      all_goals (refine WD.guardY rfl rfl rfl (by assumption) (SV.loadC (by assumption) rfl (by assumption) ?_) (by decide))
      all_goals (refine WD.guardY rfl rfl rfl (by assumption) (SV.loadM (by assumption) rfl (by assumption) (by rfl) ?_) (by decide))
      all_goals (refine WD.guardY rfl rfl rfl (by assumption) (SV.leq rfl rfl ?_) (by decide))
      all_goals (refine WD.cons (SV.pickTV rfl (by assumption) (by constructor) ?_) (by decide))
      all_goals refine WD.nil ?_
      refine WC.condT rfl (by assumption) (WC.skip (WC.block (WC.seq ?_)))
      refine WC.region ?_
      refine WO.cons (SV.move ?_) (by decide)
      refine WO.cons (SV.moveV (by constructor) ?_) (by decide)
      refine WO.cons (SV.moveV (by constructor) ?_) (by decide)
      refine WO.cons (SV.indexAddr rfl rfl (by omega) ?_) (by decide)
      refine WO.cons ?_ (by decide)
      refine SV.loadSl hM2 rfl hvv encE_len rfl hat (by omega) ?_
      refine WO.cons (SV.buildSliceM (by assumption) rfl rfl (fun a7_5 s7_5 hf7_5 hne7_5 hn7_5 hM7_5 => ?_)) (by decide)
      refine WO.cons ?_ (by decide)
      replace hM7_5 : Models ro s7_5 (H2.up a7_5 (.row 5 (encE r))) := hM7_5
      have hR3 := hR2.ext (hI _) (ext_up (o := .row 5 (encE r)) hne7_5)
      refine SV.appendM (sz := 5) (sz' := 5) (n := (A.filter (keepJ (j - 1)) ++ N).length) (m := 1) (vs := (A.filter (keepJ (j - 1)) ++ N).flatMap encE) (xs := encE r) rfl hM7_5 rfl rfl hR3.a (Src.row Hp.up_same rfl rfl (fun i v hv => by rw [Nat.zero_add]; exact hv)) rfl (by omega) (fun v8 s8 H8 hn8 hM8 hv8 hk8 hnew8 _ => ?_)
      refine WO.cons (SV.assign ?_) (by decide)
      refine WO.nil ?_
      refine WC.region ?_
      refine WO.cons (SV.moveV (by constructor) ?_) (by decide)
      refine WO.cons (SV.add64 rfl rfl (by omega) ?_) (by decide)
      refine WO.cons (SV.assignV (by constructor) ?_) (by decide)
      refine WO.nil ?_
      have hs8 : SlO H8 v8 5 (A.filter (keepJ (j - 1)) ++ (N ++ [r])).length ((A.filter (keepJ (j - 1)) ++ (N ++ [r])).flatMap encE) := by
        rw [← List.append_assoc, List.flatMap_append, List.length_append]; simpa using hv8
      refine ⟨rfl, (A1 ++ [r], R', N ++ [r], v8), ⟨rfl, rfl, rfl, rfl, rfl, ?_, rfl, trivial⟩, ⟨by omega, H8, hM8, hR3.setA (hI _) hk8 hs8 hnew8, by rw [hl1]; simp, by rw [hA1]; simp, fun e he => ?_⟩, by simp⟩
      · show some (Value.int .i64 ((A1.length : Int) + 1)) = some (Value.int .i64 ((A1 ++ [r]).length : Int))
        congr 2; simp
      · rcases List.mem_append.mp he with h | h
        · exact hy1 e h
        · rw [List.mem_singleton.mp h]; exact hrj
    have hRj : ∀ e ∈ R1, j < e.y0 := by
      intro e he
      cases R1 with
      | nil => cases he
      | cons r R' =>
        have h1 : ¬ r.y0 ≤ j := fun h => hmore ⟨r, R', rfl, h⟩
        rw [hl1] at hs
        have h2 := (Srt.app.mp hs).2.1.head_le (l := r) rfl e he
        omega
    have hact : (A.filter (keepJ (j - 1)) ++ N).filter (keepJ j) = actM l j := by rw [filter_step, ← hA1, hl1, act_split hy1 hRj]
    refine WC.seq (WC.seq ?_)
    refine WC.mono (Q := fun e g' ds' s' => e = .normal ∧ ds' = [] ∧ holds g' [(0, v), (2, .int .i64 j1), (3, .func (.func fs) #[] caps), (8, va1), (9, vc), (10, .int .i64 A1.length), (11, .pointer (some ⟨jb, 0, none⟩)), (35, .bool false)] ∧ s' = s2) ?_ ?_
    · cases R1 with
      | nil =>
        simp only [List.length_nil] at hl1'
        have hd1 : decide ((A1.length : Int) < (l.length : Int)) = false := decide_eq_false (by omega)
        refine WC.draw [0, 1, 2, 3, 4, 5, 6, 7, 8, 9, 10, 11, 12] (by kernel_rfl) (by kernel_rfl) (by kernel_rfl) ?_
        refine WD.cons (SV.moveV (by constructor) ?_) (by decide)
        refine WD.cons (SV.move ?_) (by decide)
        refine WD.cons (SV.lenO rfl rfl (by assumption) ?_) (by decide)
        refine WD.cons (SV.lss rfl rfl ?_) (by decide)
        refine WD.cons (SV.moveV (by constructor) ?_) (by decide)
        refine WD.guardN rfl rfl rfl (by assumption) ?_ (by decide)
        all_goals (refine WD.guardN rfl rfl rfl (by assumption) ?_ (by decide))
        all_goals (refine WD.guardN rfl rfl rfl (by assumption) ?_ (by decide))
        all_goals (refine WD.guardN rfl rfl rfl (by assumption) ?_ (by decide))
        all_goals (refine WD.guardN rfl rfl rfl (by assumption) ?_ (by decide))
        all_goals (refine WD.guardN rfl rfl rfl (by assumption) ?_ (by decide))
        all_goals (refine WD.guardN rfl rfl rfl (by assumption) ?_ (by decide))
        all_goals (refine WD.cons (SV.pickFV rfl (by assumption) (by constructor) ?_) (by decide))
        all_goals refine WD.nil ?_
        exact ⟨rfl, rfl, ⟨rfl, rfl, rfl, rfl, rfl, rfl, rfl, rfl, trivial⟩, rfl⟩
      | cons r R' =>
        have hrj := hRj r (by simp)
        simp only [List.length_cons] at hl1'
        obtain ⟨ν, cv, rfl⟩ := hvv.nonnil (by omega)
        have hd1 : decide ((A1.length : Int) < (l.length : Int)) = true := decide_eq_true (by omega)
        have hd2 : decide (r.y0 ≤ j) = false := decide_eq_false (by omega)
        have hat : l[A1.length]? = some r := by rw [hl1]; exact get_mid rfl
        have hcl := SlO.cellE hvv rfl hat (f := 1) rfl
        refine WC.draw [0, 1, 2, 3, 4, 5, 6, 7, 8, 9, 10, 11, 12] (by kernel_rfl) (by kernel_rfl) (by kernel_rfl) ?_
        refine WD.cons (SV.moveV (by constructor) ?_) (by decide)
        refine WD.cons (SV.moveV (by constructor) ?_) (by decide)
        refine WD.cons (SV.len rfl rfl ?_) (by decide)
        refine WD.cons (SV.lss rfl rfl ?_) (by decide)
        refine WD.cons (SV.moveV (by constructor) ?_) (by decide)
        refine WD.guardY rfl rfl rfl (by assumption) (SV.moveV (by constructor) ?_) (by decide)
        all_goals (refine WD.guardY rfl rfl rfl (by assumption) (SV.moveV (by constructor) ?_) (by decide))
        all_goals (refine WD.guardY rfl rfl rfl (by assumption) (SV.indexAddr rfl rfl (by omega) ?_) (by decide))
        all_goals (refine WD.guardY rfl rfl rfl (by assumption) (SV.fieldAddr rfl ?_) (by decide))
        all_goals (refine WD.guardY rfl rfl rfl (by assumption) (SV.loadC (by assumption) rfl (by assumption) ?_) (by decide))
        all_goals (refine WD.guardY rfl rfl rfl (by assumption) (SV.loadM (by assumption) rfl (by assumption) (by rfl) ?_) (by decide))
        all_goals (refine WD.guardY rfl rfl rfl (by assumption) (SV.leq rfl rfl ?_) (by decide))
        all_goals (refine WD.cons (SV.pickTV rfl (by assumption) (by constructor) ?_) (by decide))
        all_goals refine WD.nil ?_
        exact ⟨rfl, rfl, ⟨rfl, rfl, rfl, rfl, rfl, rfl, rfl, congrArg (fun b => some (Value.bool b)) hd2, trivial⟩, rfl⟩
    rintro e g3 ds3 s3 ⟨rfl, rfl, hg3, rfl⟩
    rw [← over_same hg3]
    refine thn_n ?_
    refine WC.condF rfl (by rfl) (WC.exit (WC.seq ?_))
    refine WC.region ?_
    refine WO.cons (SV.move ?_) (by decide)
    refine WO.cons (SV.makeFunc ?_) (by decide)
    refine WO.cons ?_ (by decide)
    refine SV.callM rfl rfl (delFn_sp (v := va1) (jb := jb) hX hM2 hR2.a (by omega) hjr hR2.aj) ?_
    rintro va2 s4 H4 hn4 hM4 ⟨hva2, hk4, hb4⟩
    rw [hact] at hva2
    have hR4 := hR2.setA (hI _) hk4 hva2 (fun μ e => .inl (by rw [← hb4]; exact e))
    have hLl : (actM l j).length ≤ 16384 := by
      have := List.length_filter_le (actB j) l
      unfold actM; omega
    have hLok : ∀ e ∈ actM l j, (e.Ok ∧ e.y0 < e.y1 ∧ (e.by' = 1 ∨ e.by' = -1)) ∧ e.y0 ≤ j ∧ j < e.y1 := fun e he => by
      unfold actM actB at he
      obtain ⟨h1, h2⟩ := List.mem_filter.mp he
      simp at h2
      exact ⟨hok e h1, h2⟩
    refine WO.cons (SV.assign ?_) (by decide)
    refine WO.nil ?_
    refine WC.seq ?_
    refine WC.region ?_
    refine WO.cons (SV.move ?_) (by decide)
    refine WO.cons ?_ (by decide)
    refine SV.sliceTo (v := vc) (i := 0) hM4 rfl hR4.c rfl (by omega) (fun vc2 hvc2 hb2 => ?_)
    have hR5 := hR4.setC (C' := []) (hI _) KeptBut.refl' (by simpa using hvc2) (fun μ e => .inl (by rw [← hb2]; exact e))
    refine WO.cons (SV.assign ?_) (by decide)
    refine WO.nil ?_
    have hva5 := hR5.a
    refine WC.seq (WC.seq ?_)
    refine WC.region ?_
    refine WO.cons (SV.move ?_) (by decide)
    refine WO.cons (SV.lenO rfl rfl (by assumption) ?_) (by decide)
    refine WO.cons (SV.moveV (by constructor) ?_) (by decide)
    refine WO.nil ?_
    refine WC.block ?_
    refine WC.loop (D := Nat × Value × List Cr) (fun x => [(0, v), (2, .int .i64 j1), (3, .func (.func fs) #[] caps), (8, va2), (9, x.2.1), (10, .int .i64 A1.length), (11, .pointer (some ⟨jb, 0, none⟩)), (50, va2), (51, .int .i64 (actM l j).length), (52, .int .i64 x.1)])
      (fun x s5 => s.next ≤ s5.next ∧ ∃ H5, Models ro s5 H5 ∧ RS H H5 B (Iv (spansM SM l j0 i)) va2 (actM l j) x.2.1 x.2.2 jb j ∧ x.1 ≤ (actM l j).length ∧ x.2.2 = ((actM l j).take x.1).map fun e => (firstM e j, e.by'))
      (fun x => (actM l j).length - x.1) (0, vc2, []) ?_ ⟨by omega, _, hM4, hR5, Nat.zero_le _, by simp⟩ ?_
    · exact ⟨rfl, rfl, rfl, rfl, rfl, rfl, rfl, rfl, rfl, rfl, trivial⟩
    clear hR5 hR4 hM4 hva5 hvc2 hb2 hn4 hk4 hR2 hM2 hn2 hva2
    rintro ⟨k, vc3, C3⟩ g s5 ⟨hn5, H5, hM5, hR5, hk5, hC5⟩
    dsimp only at hR5 hk5 hC5 ⊢
    refine WC.seq ?_
    refine WC.region ?_
    refine WO.cons (SV.lss rfl rfl ?_) (by decide)
    refine WO.nil ?_
    refine WC.seq ?_
    refine WC.condD rfl (fun hlt2 hlt2b => ?_) (fun hlt2 hlt2b => ?_)
    · obtain ⟨e, hek, hdr⟩ := drop_cons (L := actM l j) (i := k) (by omega)
      obtain ⟨⟨heok, _, heby⟩, hy0, hy1e⟩ := hLok e (List.mem_of_getElem? hek)
      have hCl : C3.length = k := by rw [hC5, List.length_map, List.length_take, Nat.min_eq_left hk5]
      have hva5 := hR5.a
      obtain ⟨ν, cv, rfl⟩ := hva5.nonnil (by omega)
      refine WC.skip (WC.seq (WC.block (WC.seq ?_)))
      refine WC.region ?_
      refine WO.cons (SV.indexAddr rfl rfl (by omega) ?_) (by decide)
      refine WO.cons ?_ (by decide)
      refine SV.loadSl hM5 rfl hva5 encE_len rfl hek (by omega) ?_
      refine WO.cons (SV.allocM (by assumption) (fun a13_2 s13_2 hf13_2 hne13_2 hn13_2 hM13_2 => ?_)) (by decide)
      refine WO.cons0 ?_
      refine SV.storeMA (l := encE e) hM13_2 rfl rfl rfl rfl Hp.up_same (Nat.le_refl _) (fun s6 hn6 hM6 => ?_)
      refine WO.nil ?_
      rw [Hp.up_up] at hM6
      replace hM6 : Models ro s6 (H5.up a13_2 (.row 0 (encE e))) := hM6
      have hR6 := hR5.ext (hI _) (ext_up (o := .row 0 (encE e)) hne13_2)
      have ha13 : (H5.up a13_2 (.row 0 (encE e))) a13_2 = some (.row 0 (encE e)) := Hp.up_same
      have hc13 : baseV vc3 ≠ some a13_2 := fun h => by
        obtain ⟨o, ho⟩ := hR5.c.base_some h
        exact hne13_2 _ _ ho rfl
      generalize H5.up a13_2 (.row 0 (encE e)) = H6 at hM6 hR6 ha13
      have hjr6 := hR6.jr
      obtain ⟨Hr, hHr⟩ : ∃ Hr : Hp, ∀ μ, Hr μ = if baseV vc3 = some μ then none else H6 μ := ⟨_, fun _ => rfl⟩
      have hsub : ∀ {H9 : Hp}, KeptBut H6 H9 vc3 → ∀ {s9 : St}, Models ro s9 H9 → Models ro s9 Hr := fun hk _ h => h.sub fun μ o e => by
        rw [hHr] at e
        by_cases hb : baseV vc3 = some μ
        · rw [if_pos hb] at e; cases e
        · rw [if_neg hb] at e; exact hk μ o e hb
      have hMr := hsub KeptBut.refl' hM6
      have hr13 : Hr a13_2 = some (.row 0 (encE e)) := by rw [hHr, if_neg hc13]; exact ha13
      have hrj : Hr jb = some (.row 0 [.int .i64 j]) := by rw [hHr, if_neg hR6.cj]; exact hjr6
      refine WC.drawE hMr [0, 1, 2, 3, 4, 5, 6, 7, 8, 9] (by kernel_rfl) (by kernel_rfl) ?_
      refine WE.act (by kernel_rfl) hMr (SV.move ⟨hMr, ?_⟩) (by decide)
      refine WE.read (St1.loadA (l := encE e) rfl hr13 rfl (fun t u hu => by rw [Nat.zero_add]; exact hu) (sameE e)) hMr ?_ (by decide)
      refine WE.read (St1.load rfl hrj rfl (sameV_int _ _)) hMr ?_ (by decide)
      refine WE.act (by kernel_rfl) hMr (SV.callM rfl rfl (first_sp hX hM6 heok ⟨hy0, hy1e⟩) ?_) (by decide)
      rintro r s7 H7 hn7 hM7 ⟨rfl, rfl⟩
      have hMr7 := hsub KeptBut.refl' hM7
      refine ⟨hMr7, ?_⟩
      refine WE.act (by kernel_rfl) hMr7 (SV.fieldAddr rfl ⟨hMr7, ?_⟩) (by decide)
      refine WE.read (St1.load rfl hr13 rfl (sameV_int _ _)) hMr7 ?_ (by decide)
      refine WE.act (by kernel_rfl) hMr7 (SV.build rfl ⟨hMr7, ?_⟩) (by decide)
      refine WE.act (by kernel_rfl) hMr7 (SV.buildSliceM hM7 rfl rfl (fun a8 s8 hf8 hne8 hn8 hM8 => ?_)) (by decide)
      replace hM8 : Models ro s8 (H7.up a8 (.row 2 (encC (firstM e j, e.by')))) := hM8
      have hE8 : Ext H7 (H7.up a8 (.row 2 (encC (firstM e j, e.by')))) := ext_up hne8
      have hMr8 := hsub (kept_ext KeptBut.refl' hE8) hM8
      refine ⟨hMr8, ?_⟩
      have hR8 := hR6.ext (hI _) hE8
      refine WE.act (by kernel_rfl) hMr8 (SV.appendM (sz := 2) (sz' := 2) (n := C3.length) (m := 1) (vs := C3.flatMap encC) (xs := encC (firstM e j, e.by')) rfl hM8 rfl rfl hR8.c (Src.row Hp.up_same rfl rfl (fun i v hv => by rw [Nat.zero_add]; exact hv)) rfl (by omega) (fun v9 s9 H9 hn9 hM9 hv9 hk9 hnew9 _ => ?_)) (by decide)
      have hMr9 := hsub ((kept_ext KeptBut.refl' hE8).trans' hk9) hM9
      refine ⟨hMr9, ?_⟩
      refine WE.act (by kernel_rfl) hMr9 (SV.assign ⟨hMr9, ?_⟩) (by decide)
      refine WE.nil ?_
      refine WC.region ?_
      refine WO.cons (SV.add64 rfl rfl (by omega) ?_) (by decide)
      refine WO.cons (SV.moveV (by constructor) ?_) (by decide)
      refine WO.nil ?_
      have hs9 : SlO H9 v9 2 (C3 ++ [(firstM e j, e.by')]).length ((C3 ++ [(firstM e j, e.by')]).flatMap encC) := by
        rw [List.flatMap_append, List.length_append]; simpa using hv9
      refine ⟨rfl, (k + 1, v9, C3 ++ [(firstM e j, e.by')]), ⟨rfl, rfl, rfl, rfl, rfl, rfl, rfl, rfl, rfl, by show some (Value.int .i64 ((k : Int) + 1)) = _; rfl, trivial⟩, ⟨by omega, H9, hM9, hR8.setC (hI _) hk9 hs9 hnew9, by dsimp only; omega, ?_⟩, by dsimp only; omega⟩
      dsimp only
      rw [hC5, List.take_add_one, hek]; simp
    · obtain rfl : k = (actM l j).length := by omega
      rw [List.take_length] at hC5
      have hC : C3 = crossM l j := hC5
      subst hC
      have hCl : (crossM l j).length ≤ 16384 := by unfold crossM; rw [List.length_map]; exact hLl
      have hCok : ∀ c ∈ crossM l j, Cr.Ok c := fun c hc => by
        unfold crossM at hc
        obtain ⟨e, he, rfl⟩ := List.mem_map.mp hc
        obtain ⟨⟨heok, _, heby⟩, hy0, hy1e⟩ := hLok e he
        exact ⟨first_bd heok ⟨hy0, hy1e⟩, heby⟩
      refine WC.exit (WC.seq ?_)
      refine WC.region ?_
      refine WO.cons (SV.move ?_) (by decide)
      refine WO.cons ?_ (by decide)
      refine SV.callM rfl rfl (hE.sort _ _ vc3 _ hM5 hR5.c (by omega) hCok) ?_
      rintro r s6 H6 hn6 hM6 ⟨rfl, hvc6, hk6⟩
      have hSl : (SM (crossM l j)).length = (crossM l j).length := (hE.perm _).length_eq
      have hR6 := hR5.setC (C' := SM (crossM l j)) (hI _) hk6 (by rw [hSl]; exact hvc6) (fun μ e => .inl e)
      have hSok : ∀ c ∈ SM (crossM l j), Cr.Ok c := fun c hc => hCok c ((hE.perm _).mem_iff.mp hc)
      have hSz : sumB (SM (crossM l j)) = 0 := by rw [sumB_perm (hE.perm _)]; exact hz j
      obtain ⟨rest, hrest⟩ := spans_split SM l j0 (j1 - j0).toNat i hin
      rw [← hj] at hrest
      generalize hcsd : SM (crossM l j) = cs at *
      have hcs := hR6.c
      refine WO.nil ?_
      refine WC.seq ?_
      refine WC.region ?_
      refine WO.cons (SV.assignV (by constructor) ?_) (by decide)
      refine WO.nil ?_
      refine WC.seq ?_
      refine WC.region ?_
      refine WO.cons (SV.move ?_) (by decide)
      refine WO.cons (SV.lenO rfl rfl (by assumption) ?_) (by decide)
      refine WO.cons (SV.moveV (by constructor) ?_) (by decide)
      refine WO.nil ?_
      refine WC.block ?_
      refine WC.loop (D := Nat × Int × List Sn) (fun x => [(0, v), (2, .int .i64 j1), (3, .func (.func fs) #[] caps), (8, va2), (9, vc3), (10, .int .i64 A1.length), (11, .pointer (some ⟨jb, 0, none⟩)), (14, .int .i64 x.2.1), (68, vc3), (69, .int .i64 cs.length), (70, .int .i64 x.1)])
        (fun x s7 => s.next ≤ s7.next ∧ ∃ H7, Models ro s7 H7 ∧ RS H H7 B (Iv x.2.2) va2 (actM l j) vc3 cs jb j ∧ x.1 ≤ cs.length ∧ x.2.2 ++ spR j x.2.1 (cs.drop x.1) = spansM SM l j0 i ++ spR j 0 cs ∧ x.2.1 + sumB (cs.drop x.1) = 0 ∧ -(x.1 : Int) ≤ x.2.1 ∧ x.2.1 ≤ x.1)
        (fun x => cs.length - x.1) (0, 0, spansM SM l j0 i) ?_ ⟨by omega, H6, hM6, hR6, Nat.zero_le _, by rw [List.drop_zero], by rw [List.drop_zero, Int.zero_add]; exact hSz, by dsimp only; omega, by dsimp only; omega⟩ ?_
      · exact ⟨rfl, rfl, rfl, rfl, rfl, rfl, rfl, rfl, rfl, rfl, rfl, trivial⟩
      clear hR6 hM6 hn6 hk6 hvc6 hR5 hM5 hcs
      rintro ⟨k, w, sp⟩ g s7 ⟨hn7, H7, hM7, hR7, hk7, hsp7, hw7, hw8, hw9⟩
      dsimp only at hR7 hk7 hsp7 hw7 hw8 hw9 ⊢
      refine WC.seq ?_
      refine WC.region ?_
      refine WO.cons (SV.lss rfl rfl ?_) (by decide)
      refine WO.nil ?_
      refine WC.seq ?_
      refine WC.condD rfl (fun hlt3 hlt3b => ?_) (fun hlt3 hlt3b => ?_)
      · obtain ⟨c, hck, hdr⟩ := drop_cons (L := cs) (i := k) (by omega)
        obtain ⟨hc1, hc2⟩ := hSok c (List.mem_of_getElem? hck)
        rw [hdr] at hsp7 hw7
        have hw7' : w + c.2 + sumB (cs.drop (k + 1)) = 0 := by rw [← hw7]; unfold sumB; simp only [List.map_cons, List.sum_cons]; omega
        have hcs7 := hR7.c
        obtain ⟨ν, cv, rfl⟩ := hcs7.nonnil (by omega)
        refine WC.skip (WC.seq (WC.block (WC.seq ?_)))
        refine WC.region ?_
        refine WO.cons (SV.moveV (by constructor) ?_) (by decide)
        refine WO.cons (SV.indexAddr rfl rfl (by omega) ?_) (by decide)
        refine WO.cons ?_ (by decide)
        refine SV.loadSl hM7 rfl hcs7 encC_len rfl hck (by omega) ?_
        refine WO.cons (SV.allocM (by assumption) (fun a20_3 s20_3 hf20_3 hne20_3 hn20_3 hM20_3 => ?_)) (by decide)
        refine WO.cons (SV.assignV (by constructor) ?_) (by decide)
        refine WO.cons0 ?_
        refine SV.storeMA (l := encC c) hM20_3 rfl rfl rfl rfl Hp.up_same (Nat.le_refl _) (fun s8 hn8 hM8 => ?_)
        refine WO.nil ?_
        rw [Hp.up_up] at hM8
        replace hM8 : Models ro s8 (H7.up a20_3 (.row 0 (encC c))) := hM8
        have hR8 := hR7.ext (hI _) (ext_up (o := .row 0 (encC c)) hne20_3)
        have ha20 : (H7.up a20_3 (.row 0 (encC c))) a20_3 = some (.row 0 (encC c)) := Hp.up_same
        generalize H7.up a20_3 (.row 0 (encC c)) = H8 at hM8 hR8 ha20
        have hjr8 := hR8.jr
        have hcs8 := hR8.c
        refine WC.seq ?_
        refine WC.region ?_
        refine WO.cons (SV.moveV (by constructor) ?_) (by decide)
        refine WO.cons (SV.fieldAddr rfl ?_) (by decide)
        refine WO.cons (SV.loadM (by assumption) rfl (by assumption) (by rfl) ?_) (by decide)
        refine WO.cons (SV.add64 rfl rfl (by omega) ?_) (by decide)
        refine WO.cons (SV.assignV (by constructor) ?_) (by decide)
        refine WO.nil ?_
        refine WC.seq ?_
        refine WC.region ?_
        refine WO.cons (SV.moveV (by constructor) ?_) (by decide)
        refine WO.cons (SV.neqI rfl rfl ?_) (by decide)
        refine WO.nil ?_
        by_cases hw0 : w + c.2 = 0
        · have hd : (decide (w + c.2 ≠ 0)) = false := decide_eq_false (by simp [hw0])
          refine WC.condF rfl (by assumption) (WC.skip ?_)
          refine WC.region ?_
          refine WO.cons (SV.add64 rfl rfl (by omega) ?_) (by decide)
          refine WO.cons (SV.moveV (by constructor) ?_) (by decide)
          refine WO.nil ?_
          refine ⟨rfl, (k + 1, w + c.2, sp), ⟨rfl, rfl, rfl, rfl, rfl, rfl, rfl, rfl, rfl, rfl, by show some (Value.int .i64 ((k : Int) + 1)) = _; rfl, trivial⟩, ⟨by omega, H8, hM8, hR8, by dsimp only; omega, ?_, hw7', by dsimp only; omega, by dsimp only; omega⟩, by dsimp only; omega⟩
          dsimp only
          rw [← hsp7]; simp only [spR, if_pos hw0, List.nil_append]
        · have hd : (decide (w + c.2 ≠ 0)) = true := decide_eq_true hw0
          obtain ⟨d, hdk⟩ : ∃ d, cs[k + 1]? = some d := by
            cases e : cs.drop (k + 1) with
            | nil => rw [e] at hw7'; exact absurd (by simpa [sumB] using hw7') hw0
            | cons d ds => exact ⟨d, by rw [← Nat.add_zero (k + 1), ← List.getElem?_drop, e]; rfl⟩
          have hk1 : k + 1 < cs.length := (List.getElem?_eq_some_iff.mp hdk).1
          obtain ⟨d', hdk', hdr'⟩ := drop_cons (L := cs) (i := k + 1) hk1
          rw [hdk] at hdk'
          cases hdk'
          have hcd := SlO.cellC hcs8 rfl hdk (f := 0) rfl
          have hstep : spR j w (c :: cs.drop (k + 1)) = (j, c.1, d.1) :: spR j (w + c.2) (cs.drop (k + 1)) := by
            rw [hdr']; simp only [spR, if_neg hw0, List.singleton_append]
          rw [hstep] at hsp7
          have hfull : spansM SM l j0 (j1 - j0).toNat = sp ++ (j, c.1, d.1) :: (spR j (w + c.2) (cs.drop (k + 1)) ++ rest) := by
            rw [hrest, ← List.append_assoc, ← hsp7]; simp only [List.append_assoc, List.cons_append]
          refine WC.condT rfl (by assumption) ?_
          have hcell : cellH H8 ν (0 + ((k : Int) + 1).toNat * 2 + 0) = some (.int .i64 d.1) := by rw [show ((k : Int) + 1).toNat = k + 1 by omega]; exact hcd
          refine WC.draw [0, 1, 2, 3, 4, 5, 6, 7, 8, 9, 10] (by kernel_rfl) (by kernel_rfl) (by kernel_rfl) ?_
          refine WD.cons (SV.moveV (by constructor) ?_) (by decide)
          refine WD.cons (SV.loadM (by assumption) rfl (by assumption) (by rfl) ?_) (by decide)
          refine WD.cons (SV.fieldAddr rfl ?_) (by decide)
          refine WD.cons (SV.loadM (by assumption) rfl (by assumption) (by rfl) ?_) (by decide)
          refine WD.cons (SV.moveV (by constructor) ?_) (by decide)
          refine WD.cons (SV.moveV (by constructor) ?_) (by decide)
          refine WD.cons (SV.add64 rfl rfl (by omega) ?_) (by decide)
          refine WD.cons (SV.indexAddr rfl rfl (by omega) ?_) (by decide)
          refine WD.cons (SV.fieldAddr rfl ?_) (by decide)
          refine WD.cons (SV.loadC (by assumption) rfl (by assumption) ?_) (by decide)
          refine WD.cons ?_ (by decide)
          refine SV.callM rfl rfl (hfn _ _ sp j c.1 d.1 _ hM8 hR8.rw.iv hfull) ?_
          rintro r s9 H9 hn9 hM9 ⟨rfl, hIv9, hf9⟩
          refine WD.nil ?_
          refine WC.region ?_
          refine WO.cons (SV.add64 rfl rfl (by omega) ?_) (by decide)
          refine WO.cons (SV.moveV (by constructor) ?_) (by decide)
          refine WO.nil ?_
          exact ⟨rfl, (k + 1, w + c.2, sp ++ [(j, c.1, d.1)]), ⟨rfl, rfl, rfl, rfl, rfl, rfl, rfl, rfl, rfl, rfl, by show some (Value.int .i64 ((k : Int) + 1)) = _; rfl, trivial⟩, ⟨by omega, H9, hM9, hR8.call hIv9 hf9, by dsimp only; omega, by dsimp only; rw [← hsp7]; simp, hw7', by dsimp only; omega, by dsimp only; omega⟩, by dsimp only; omega⟩
      · obtain rfl : k = cs.length := by omega
        rw [List.drop_length] at hsp7
        simp only [spR, List.append_nil] at hsp7
        have hspan : sp = spansM SM l j0 (i + 1) := by
          rw [hsp7, spans_succ, ← hj, hcsd]
        subst hspan
        have hjr7 := hR7.jr
        refine WC.exit (WC.seq (WC.seq ?_))
        refine WC.region ?_
        refine WO.cons (SV.loadM (by assumption) rfl (by assumption) (by rfl) ?_) (by decide)
        refine WO.nil ?_
        refine WC.region ?_
        refine WO.cons (SV.allocM (by assumption) (fun a26_0 s26_0 hf26_0 hne26_0 hn26_0 hM26_0 => ?_)) (by decide)
        refine WO.cons0 (SV.storeV (by assumption) rfl (by constructor) (by exact Hp.up_same) (by (simp; done)) (fun s26_1 hn26_1 hM26_1 => ?_))
        refine WO.nil ?_
        rw [Hp.up_up] at hM26_1
        replace hM26_1 : Models ro s26_1 (H7.up a26_0 (.row 0 [.int .i64 j])) := hM26_1
        have hR8 := hR7.newJ (hI _) (j' := j) hne26_0
        refine WC.region ?_
        refine WO.cons (SV.loadM (by assumption) rfl (by exact Hp.up_same) (by rfl) ?_) (by decide)
        refine WO.cons (SV.add64 rfl rfl (by omega) ?_) (by decide)
        refine WO.cons0 (SV.storeV (by assumption) rfl (by constructor) (by exact Hp.up_same) (by (simp; done)) (fun s5_2 hn5_2 hM5_2 => ?_))
        refine WO.nil ?_
        rw [Hp.up_up] at hM5_2
        replace hM5_2 : Models ro s5_2 (H7.up a26_0 (.row 0 [.int .i64 (j + 1)])) := hM5_2
        have hR9 := hR8.setJ (hI _) (j' := j + 1)
        rw [Hp.up_up] at hR9
        refine ⟨rfl, (i + 1, A1, va2, vc3, cs, a26_0), ⟨rfl, rfl, rfl, rfl, rfl, rfl, rfl, trivial⟩, ⟨by omega, _, R1, hM5_2, ?_, hl1, fun e he => ?_, by dsimp only; omega⟩, by dsimp only; omega⟩
        · dsimp only
          rw [show j0 + ((i + 1 : Nat) : Int) - 1 = j by omega, show j0 + ((i + 1 : Nat) : Int) = j + 1 by omega]
          have : A1.filter (keepJ j) = actM l j := by rw [hl1, act_split hy1 hRj]
          rw [this]
          exact hR9
        · have := hy1 e he
          dsimp only; omega
  · refine WC.exit ?_
    obtain rfl : i = (j1 - j0).toNat := by omega
    exact fin_none (e := .normal) rfl trivial hn1 hM1 ⟨rfl, hR1.rw.iv, fun ν o b e => hR1.rw.fr ν o e b⟩
end Go.Proofs.Ytmlplblhabdbpaa
