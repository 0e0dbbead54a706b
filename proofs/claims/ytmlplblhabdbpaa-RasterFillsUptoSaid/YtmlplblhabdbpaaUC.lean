/- A part of the proof: rules for walking code over the evaluator, and what the functions that were walked come to: no condition but those that each theorem states. -/
import Derived.Test.YtmlplblhabdbpaaUB
set_option linter.unusedVariables false
set_option linter.unusedSimpArgs false
namespace Go.Proofs.Ytmlplblhabdbpaa
open Go.Ab
variable {X : CallE} {ro : Nat}
set_option maxRecDepth 10000
set_option linter.unusedVariables false
set_option linter.unusedSimpArgs false

theorem app3 {A B C : List Ed} : A ++ (B ++ C) = (A ++ B) ++ C := (List.append_assoc _ _ _).symm
set_option maxHeartbeats 1000000 in
/-- stable: a row is put in order. -/
theorem stable_sp {s : St} {H : Hp} {v : Value} {n : Nat} {L : List Ed} (hX : OwnX X) (hM : Models ro s H) (hv : SlO H v 5 n (L.flatMap encE)) (hn : L.length = n) (hbig : n ≤ 1000000) (hok : ∀ e ∈ L, e.Ok) :
    Sp X Try.prog ro 58 [v, .int .i64 n, cmpV] s fun r H' => r = .tuple #[] ∧ ∃ L', SlO H' v 5 n (L'.flatMap encE) ∧ KeptBut H H' v ∧ L'.Perm L ∧ Srt Ed.y0 L' := by
  refine Sp.of_body (hX _ _ _ (by decide) (by decide) (by decide) (by decide)) Try.func58 rfl Try.ntmps58 (by simp) ?_
  refine WC.seq ?_
  refine WC.region ?_
  refine WO.cons (SV.assignV (by constructor) ?_) (by decide)
  refine WO.nil ?_
  refine WC.seq ?_
  refine WC.region ?_
  refine WO.cons (SV.moveV (by constructor) ?_) (by decide)
  refine WO.cons (SV.assignV (by constructor) ?_) (by decide)
  refine WO.cons (SV.assignV (by constructor) ?_) (by decide)
  refine WO.nil ?_
  refine WC.seq (WC.block ?_)
  refine WC.loop (D := List (List Ed) × List Ed) (fun x => [(0, v), (1, .int .i64 n), (2, cmpV), (6, .int .i64 20), (7, .int .i64 x.1.flatten.length), (8, .int .i64 (x.1.flatten.length + 20))])
    (fun x s1 => s.next ≤ s1.next ∧ ∃ H1, Models ro s1 H1 ∧ SlO H1 v 5 n ((x.1.flatten ++ x.2).flatMap encE) ∧ KeptBut H H1 v ∧ (x.1.flatten ++ x.2).Perm L ∧ Blks Ed.y0 20 x.1)
    (fun x => x.2.length) ([], L) ?_ ⟨by omega, H, hM, hv, KeptBut.refl', List.Perm.refl _, fun _ h => by cases h⟩ ?_
  · exact ⟨rfl, rfl, rfl, rfl, rfl, rfl, trivial⟩
  rintro ⟨Ls, T⟩ g s1 ⟨hn1, H1, hM1, hv1, hk1, hp1, hb1⟩
  dsimp only at hv1 hp1 hb1 ⊢
  have hl1 := hp1.length_eq
  rw [hn] at hl1
  have hl1' := hl1
  rw [List.length_append] at hl1'
  obtain ⟨p, hp⟩ : ∃ p, p = Ls.flatten.length := ⟨_, rfl⟩
  rw [← hp]
  refine WC.seq (WC.seq ?_)
  refine WC.region ?_
  refine WO.cons (SV.moveV (by constructor) ?_) (by decide)
  refine WO.cons (SV.moveV (by constructor) ?_) (by decide)
  refine WO.cons (SV.leq rfl rfl ?_) (by decide)
  refine WO.nil ?_
  refine WC.condD rfl (fun hlt hltb => ?_) (fun hlt hltb => ?_)
  · obtain ⟨Q, R, rfl, hQ⟩ := cut_at T (n := 20) (by omega)
    refine WC.skip (WC.block (WC.seq ?_))
    refine WC.region ?_
    refine WO.cons (SV.move ?_) (by decide)
    refine WO.cons (SV.moveV (by constructor) ?_) (by decide)
    refine WO.cons (SV.moveV (by constructor) ?_) (by decide)
    refine WO.cons (SV.moveV (by constructor) ?_) (by decide)
    refine WO.cons ?_ (by decide)
    refine SV.callM rfl rfl (insSort_sp (v := v) (A := Ls.flatten) (Q := Q) (B := R) hX hM1 hv1 hl1 hbig (fun e he => hok e (hp1.mem_iff.mp (by simp [he]))) (by omega) (by omega)) ?_
    rintro r s2 H2 hn2 hM2 ⟨rfl, Q', hv2, hk2, hp2, hs2⟩
    refine WO.nil ?_
    refine WC.seq ?_
    refine WC.region ?_
    refine WO.cons (SV.moveV (by constructor) ?_) (by decide)
    refine WO.cons (SV.assignV (by constructor) ?_) (by decide)
    refine WO.nil ?_
    refine WC.region ?_
    refine WO.cons (SV.moveV (by constructor) ?_) (by decide)
    refine WO.cons (SV.moveV (by constructor) ?_) (by decide)
    refine WO.cons (SV.add64 rfl rfl (by omega) ?_) (by decide)
    refine WO.cons (SV.assignV (by constructor) ?_) (by decide)
    refine WO.nil ?_
    have hQl := hp2.length_eq
    refine ⟨rfl, (Ls ++ [Q'], R), ⟨rfl, rfl, rfl, rfl, ?_, ?_, trivial⟩, ⟨by omega, H2, hM2, by simpa only [List.flatten_append, List.flatten_cons, List.flatten_nil, List.append_nil, List.append_assoc] using hv2, hk1.trans' hk2, ?_, hb1.add (by omega) hs2⟩, by simp only [List.length_append]; omega⟩
    · show some (Value.int .i64 _) = some (Value.int .i64 _)
      congr 2; simp only [List.flatten_append, List.flatten_cons, List.flatten_nil, List.append_nil, List.length_append]; omega
    · show some (Value.int .i64 _) = some (Value.int .i64 _)
      congr 2; simp only [List.flatten_append, List.flatten_cons, List.flatten_nil, List.append_nil, List.length_append]; omega
    · simp only [List.flatten_append, List.flatten_cons, List.flatten_nil, List.append_nil, List.append_assoc]
      exact ((hp2.append_right R).append_left _).trans hp1
  have hT : T.length < 20 := by omega
  refine WC.exit (WC.seq ?_)
  refine WC.region ?_
  refine WO.cons (SV.move ?_) (by decide)
  refine WO.cons (SV.moveV (by constructor) ?_) (by decide)
  refine WO.cons (SV.moveV (by constructor) ?_) (by decide)
  refine WO.cons (SV.moveV (by constructor) ?_) (by decide)
  refine WO.cons ?_ (by decide)
  refine SV.callM rfl rfl (insSort_sp (v := v) (A := Ls.flatten) (Q := T) (B := []) hX hM1 (by rw [List.append_nil]; exact hv1) (by rw [List.append_nil]; exact hl1) hbig (fun e he => hok e (hp1.mem_iff.mp (by simp [he]))) (by omega) (by omega)) ?_
  rintro r s2 H2 hn2 hM2 ⟨rfl, T', hv2, hk2, hp2, hs2⟩
  rw [List.append_nil] at hv2
  have hTl := hp2.length_eq
  refine WO.nil ?_
  refine WC.block ?_
  refine WC.loop (D := Int × List (List Ed) × List Ed) (fun x => [(0, v), (1, .int .i64 n), (2, cmpV), (6, .int .i64 x.1)])
    (fun x s3 => s.next ≤ s3.next ∧ ∃ H3, Models ro s3 H3 ∧ SlO H3 v 5 n ((x.2.1.flatten ++ x.2.2).flatMap encE) ∧ KeptBut H H3 v ∧ (x.2.1.flatten ++ x.2.2).Perm L ∧ Blks Ed.y0 x.1.toNat x.2.1 ∧ 20 ≤ x.1 ∧ x.1 ≤ 2000000 ∧ x.2.2.length < x.1 ∧ Srt Ed.y0 x.2.2)
    (fun x => (n - x.1).toNat) (20, Ls, T') ?_ ⟨by omega, H2, hM2, hv2, hk1.trans' hk2, ((hp2.append_left _).trans hp1), hb1, by dsimp only; omega, by dsimp only; omega, by dsimp only; omega, hs2⟩ ?_
  · exact ⟨rfl, rfl, rfl, rfl, trivial⟩
  clear hv2 hk2 hp2 hs2 hTl hM2 hn2 hv1 hp1 hb1 hl1 hl1' hp hT hk1 hM1 hn1
  rintro ⟨w, Es, T⟩ g s3 ⟨hn3, H3, hM3, hv3, hk3, hp3, hb3, hw1, hw2, hw3, hs3⟩
  dsimp only at hv3 hp3 hb3 hw1 hw2 hw3 hs3 ⊢
  have hl3 := hp3.length_eq
  rw [hn] at hl3
  refine WC.seq (WC.seq ?_)
  refine WC.region ?_
  refine WO.cons (SV.moveV (by constructor) ?_) (by decide)
  refine WO.cons (SV.moveV (by constructor) ?_) (by decide)
  refine WO.cons (SV.lss rfl rfl ?_) (by decide)
  refine WO.nil ?_
  refine WC.condD rfl (fun hlt2 hlt2b => ?_) (fun hlt2 hlt2b => ?_)
  · refine WC.skip (WC.block (WC.seq ?_))
    refine WC.region ?_
    refine WO.cons (SV.moveV (by constructor) ?_) (by decide)
    refine WO.cons (SV.mul64 rfl rfl (by omega) ?_) (by decide)
    refine WO.cons (SV.assignV (by constructor) ?_) (by decide)
    refine WO.cons (SV.assignV (by constructor) ?_) (by decide)
    refine WO.nil ?_
    refine WC.seq (WC.block ?_)
    refine WC.loop (D := List (List Ed) × List (List Ed)) (fun x => [(0, v), (1, .int .i64 n), (2, cmpV), (6, .int .i64 w), (7, .int .i64 x.1.flatten.length), (8, .int .i64 (x.1.flatten.length + 2 * w))])
      (fun x s4 => s.next ≤ s4.next ∧ ∃ H4, Models ro s4 H4 ∧ SlO H4 v 5 n ((x.1.flatten ++ (x.2.flatten ++ T)).flatMap encE) ∧ KeptBut H H4 v ∧ (x.1.flatten ++ (x.2.flatten ++ T)).Perm L ∧ Blks Ed.y0 (2 * w).toNat x.1 ∧ Blks Ed.y0 w.toNat x.2)
      (fun x => x.2.length) ([], Es) ?_ ⟨hn3, H3, hM3, hv3, hk3, hp3, (fun _ h => by cases h), hb3⟩ ?_
    · refine ⟨rfl, rfl, rfl, rfl, rfl, ?_, trivial⟩
      show some (Value.int .i64 (2 * w)) = some (Value.int .i64 (((0 : Nat) : Int) + 2 * w))
      congr 2; omega
    rintro ⟨Ds, Fs⟩ g s4 ⟨hn4, H4, hM4, hv4, hk4, hp4, hb4, hb5⟩
    dsimp only at hv4 hp4 hb4 hb5 ⊢
    have hl4 := hp4.length_eq
    rw [hn] at hl4
    have hl4' := hl4
    simp only [List.length_append] at hl4'
    obtain ⟨p, hp⟩ : ∃ p, p = Ds.flatten.length := ⟨_, rfl⟩
    rw [← hp]
    have hokL : ∀ e ∈ Ds.flatten ++ (Fs.flatten ++ T), e.Ok := fun e he => hok e (hp4.mem_iff.mp he)
    refine WC.seq (WC.seq ?_)
    refine WC.region ?_
    refine WO.cons (SV.moveV (by constructor) ?_) (by decide)
    refine WO.cons (SV.moveV (by constructor) ?_) (by decide)
    refine WO.cons (SV.leq rfl rfl ?_) (by decide)
    refine WO.nil ?_
    refine WC.condD rfl (fun hlt3 hlt3b => ?_) (fun hlt3 hlt3b => ?_)
    · cases Fs with
      | nil => simp only [List.flatten_cons, List.flatten_nil, List.length_nil, List.nil_append] at hl4'; omega
      | cons E1 Fs =>
        have hE1 := hb5 E1 (by simp)
        simp only [List.flatten_cons, List.length_append] at hl4'
        cases Fs with
        | nil => simp only [List.flatten_cons, List.flatten_nil, List.length_nil, List.nil_append] at hl4'; omega
        | cons E2 Fs =>
          have hE2 := hb5 E2 (by simp)
          simp only [List.flatten_cons, List.length_append] at hl4'
          refine WC.skip (WC.block (WC.seq ?_))
          refine WC.region ?_
          refine WO.cons (SV.move ?_) (by decide)
          refine WO.cons (SV.moveV (by constructor) ?_) (by decide)
          refine WO.cons (SV.moveV (by constructor) ?_) (by decide)
          refine WO.cons (SV.moveV (by constructor) ?_) (by decide)
          refine WO.cons (SV.add64 rfl rfl (by omega) ?_) (by decide)
          refine WO.cons (SV.moveV (by constructor) ?_) (by decide)
          refine WO.cons (SV.moveV (by constructor) ?_) (by decide)
          refine WO.cons ?_ (by decide)
          refine SV.callM rfl rfl (symM_sp hX _ (v := v) (n := n) (A := Ds.flatten) (X0 := E1) (Y0 := E2) (B := Fs.flatten ++ T) (Nat.le_refl _) hM4 (by simpa only [List.flatten_cons, List.append_assoc] using hv4) (by simpa only [List.flatten_cons, List.append_assoc] using hl4) hbig
            (fun e he => hokL e (by simp only [List.flatten_cons, List.mem_append] at he ⊢; rcases he with h | h <;> simp [h])) (by omega) (by omega) (by omega) (by omega) (by omega) hE1.2 hE2.2) ?_
          rintro r s5 H5 hn5 hM5 ⟨rfl, Z, hv5, hk5, hp5, hs5⟩
          refine WO.nil ?_
          refine WC.seq ?_
          refine WC.region ?_
          refine WO.cons (SV.moveV (by constructor) ?_) (by decide)
          refine WO.cons (SV.assignV (by constructor) ?_) (by decide)
          refine WO.nil ?_
          refine WC.region ?_
          refine WO.cons (SV.moveV (by constructor) ?_) (by decide)
          refine WO.cons (SV.moveV (by constructor) ?_) (by decide)
          refine WO.cons (SV.mul64 rfl rfl (by omega) ?_) (by decide)
          refine WO.cons (SV.add64 rfl rfl (by omega) ?_) (by decide)
          refine WO.cons (SV.assignV (by constructor) ?_) (by decide)
          refine WO.nil ?_
          have hZl := hp5.length_eq
          rw [List.length_append] at hZl
          refine ⟨rfl, (Ds ++ [Z], Fs), ⟨rfl, rfl, rfl, rfl, ?_, ?_, trivial⟩, ⟨by omega, H5, hM5, by simpa only [List.flatten_append, List.flatten_cons, List.flatten_nil, List.append_nil, List.append_assoc] using hv5, hk4.trans' hk5, ?_, hb4.add (by omega) hs5, fun Y hY => hb5 Y (by simp [hY])⟩, by simp only [List.length_cons]; omega⟩
          · show some (Value.int .i64 _) = some (Value.int .i64 _)
            congr 2; simp only [List.flatten_append, List.flatten_cons, List.flatten_nil, List.append_nil, List.length_append]; omega
          · show some (Value.int .i64 _) = some (Value.int .i64 _)
            congr 2; simp only [List.flatten_append, List.flatten_cons, List.flatten_nil, List.append_nil, List.length_append]; omega
          · simp only [List.flatten_append, List.flatten_cons, List.flatten_nil, List.append_nil, List.append_assoc] at hp4 ⊢
            refine List.Perm.trans (List.Perm.append_left _ ?_) hp4
            rw [← List.append_assoc E1]
            exact hp5.append_right _
    · -- what is left
      refine WC.exit (WC.seq (WC.seq ?_))
      refine WC.region ?_
      refine WO.cons (SV.moveV (by constructor) ?_) (by decide)
      refine WO.cons (SV.moveV (by constructor) ?_) (by decide)
      refine WO.cons (SV.add64 rfl rfl (by omega) ?_) (by decide)
      refine WO.cons (SV.assignV (by constructor) ?_) (by decide)
      refine WO.nil ?_
      refine WC.seq ?_
      refine WC.region ?_
      refine WO.cons (SV.moveV (by constructor) ?_) (by decide)
      refine WO.cons (SV.moveV (by constructor) ?_) (by decide)
      refine WO.cons (SV.lss rfl rfl ?_) (by decide)
      refine WO.nil ?_
      refine WC.condD rfl (fun hlt4 hlt4b => ?_) (fun hlt4 hlt4b => ?_)
      · cases Fs with
        | nil => simp only [List.flatten_cons, List.flatten_nil, List.length_nil, List.nil_append] at hl4'; omega
        | cons E1 Fs =>
          have hE1 := hb5 E1 (by simp)
          simp only [List.flatten_cons, List.length_append] at hl4'
          cases Fs with
          | cons E2 Fs =>
            have hE2 := hb5 E2 (by simp)
            simp only [List.flatten_cons, List.length_append] at hl4'
            omega
          | nil =>
            simp only [List.flatten_nil, List.length_nil] at hl4'
            refine WC.region ?_
            refine WO.cons (SV.move ?_) (by decide)
            refine WO.cons (SV.moveV (by constructor) ?_) (by decide)
            refine WO.cons (SV.moveV (by constructor) ?_) (by decide)
            refine WO.cons (SV.moveV (by constructor) ?_) (by decide)
            refine WO.cons (SV.moveV (by constructor) ?_) (by decide)
            refine WO.cons ?_ (by decide)
            refine SV.callM rfl rfl (symM_sp hX _ (v := v) (n := n) (A := Ds.flatten) (X0 := E1) (Y0 := T) (B := []) (Nat.le_refl _) hM4 (by simpa only [List.flatten_cons, List.flatten_nil, List.append_nil, List.append_assoc] using hv4) (by simpa only [List.flatten_cons, List.flatten_nil, List.append_nil, List.append_assoc] using hl4) hbig
              (fun e he => hokL e (by simp only [List.flatten_cons, List.mem_append] at he ⊢; rcases he with h | h <;> simp [h])) (by omega) (by omega) (by omega) (by omega) (by omega) hE1.2 hs3) ?_
            rintro r s5 H5 hn5 hM5 ⟨rfl, Z, hv5, hk5, hp5, hs5⟩
            have hZl := hp5.length_eq
            rw [List.length_append] at hZl
            refine WO.nil ?_
            refine WC.region ?_
            refine WO.cons (SV.moveV (by constructor) ?_) (by decide)
            refine WO.cons (SV.mul64 rfl rfl (by omega) ?_) (by decide)
            refine WO.cons (SV.assignV (by constructor) ?_) (by decide)
            refine WO.nil ?_
            refine ⟨rfl, (w * 2, Ds, Z), ⟨rfl, rfl, rfl, rfl, trivial⟩, ⟨by omega, H5, hM5, by simpa only [List.append_nil] using hv5, hk4.trans' hk5, ?_, by rw [Int.mul_comm]; exact hb4, by dsimp only; omega, by dsimp only; omega, by dsimp only; omega, hs5⟩, by dsimp only; omega⟩
            dsimp only
            simp only [List.flatten_cons, List.flatten_nil, List.append_nil] at hp4
            exact (hp5.append_left _).trans hp4
      · refine WC.skip ?_
        refine WC.region ?_
        refine WO.cons (SV.moveV (by constructor) ?_) (by decide)
        refine WO.cons (SV.mul64 rfl rfl (by omega) ?_) (by decide)
        refine WO.cons (SV.assignV (by constructor) ?_) (by decide)
        refine WO.nil ?_
        cases Fs with
        | nil =>
          simp only [List.flatten_nil, List.nil_append] at hv4 hp4
          refine ⟨rfl, (w * 2, Ds, T), ⟨rfl, rfl, rfl, rfl, trivial⟩, ⟨hn4, H4, hM4, hv4, hk4, hp4, by rw [Int.mul_comm]; exact hb4, by dsimp only; omega, by dsimp only; omega, by dsimp only; omega, hs3⟩, by dsimp only; omega⟩
        | cons E1 Fs =>
          have hE1 := hb5 E1 (by simp)
          simp only [List.flatten_cons, List.length_append] at hl4'
          obtain rfl : T = [] := List.length_eq_zero_iff.mp (by omega)
          have hF : Fs.flatten = [] := List.length_eq_zero_iff.mp (by omega)
          simp only [List.flatten_cons, hF, List.append_nil] at hv4 hp4
          refine ⟨rfl, (w * 2, Ds, E1), ⟨rfl, rfl, rfl, rfl, trivial⟩, ⟨hn4, H4, hM4, hv4, hk4, hp4, by rw [Int.mul_comm]; exact hb4, by dsimp only; omega, by dsimp only; omega, by dsimp only; omega, hE1.2⟩, by dsimp only; omega⟩
  · refine WC.exit ?_
    refine fin_none (e := .normal) rfl trivial hn3 hM3 ⟨rfl, _, hv3, hk3, hp3, ?_⟩
    exact hb3.done hs3 (by omega)
/-- slices.SortStableFunc of edges. -/
theorem sortE_sp {s : St} {H : Hp} {v : Value} {n : Nat} {L : List Ed} (hX : OwnX X) (hM : Models ro s H) (hv : SlO H v 5 n (L.flatMap encE)) (hn : L.length = n) (hbig : n ≤ 1000000) (hok : ∀ e ∈ L, e.Ok) :
    Sp X Try.prog ro 46 [v, cmpV] s fun r H' => r = .tuple #[] ∧ ∃ L', SlO H' v 5 n (L'.flatMap encE) ∧ KeptBut H H' v ∧ L'.Perm L ∧ Srt Ed.y0 L' := by
  refine Sp.of_body (hX _ _ _ (by decide) (by decide) (by decide) (by decide)) Try.func46 rfl Try.ntmps46 (by simp) ?_
  refine WC.region ?_
  refine WO.cons (SV.move ?_) (by decide)
  refine WO.cons (SV.move ?_) (by decide)
  refine WO.cons (SV.lenO rfl rfl (by assumption) ?_) (by decide)
  refine WO.cons (SV.moveV (by constructor) ?_) (by decide)
  refine WO.cons ?_ (by decide)
  refine SV.callM rfl rfl (stable_sp hX hM hv hn hbig hok) ?_
  rintro r s2 H2 hn2 hM2 ⟨rfl, L', h⟩
  refine WO.nil ?_
  exact fin_none (e := .normal) rfl trivial (by omega) hM2 ⟨rfl, L', h⟩
end Go.Proofs.Ytmlplblhabdbpaa

namespace Go.Proofs.Ytmlplblhabdbpaa
open Go.Ab
variable {X : CallE} {ro : Nat}
set_option maxRecDepth 10000
set_option linter.unusedVariables false
set_option linter.unusedSimpArgs false

/-- A point. -/
abbrev Spt := Int × Int
def SpotH (H : Hp) (B : Option Addr) (c : List Spt) : Prop := True ∧ ∀ (j : Nat) s, c[j]? = some s → ∃ ν o, B = some ⟨ν, o, none⟩ ∧ cellH H ν (o + j * 2) = some (.int .i64 s.1) ∧ cellH H ν (o + j * 2 + 1) = some (.int .i64 s.2)
/-- Polygons that may be read. -/
def PolyH (H : Hp) (A : Option Addr) (p : List (List Spt)) : Prop := ∀ (i : Nat) c, p[i]? = some c → ∃ ν o B k, A = some ⟨ν, o, none⟩ ∧ cellH H ν (o + i * 1) = some (.slice B c.length k) ∧ SpotH H B c
theorem SpotH.ext {H H' : Hp} {B : Option Addr} {c : List Spt} (h : SpotH H B c) (hk : Ext H H') : SpotH H' B c := ⟨h.1, fun j s e => by
  obtain ⟨ν, o, h1, h2, h3⟩ := h.2 j s e
  exact ⟨ν, o, h1, cellH_ext hk h2, cellH_ext hk h3⟩⟩
theorem PolyH.ext {H H' : Hp} {A : Option Addr} {p : List (List Spt)} (h : PolyH H A p) (hk : Ext H H') : PolyH H' A p := fun i c e => by
  obtain ⟨ν, o, B, k, h1, h2, h3⟩ := h i c e
  exact ⟨ν, o, B, k, h1, cellH_ext hk h2, h3.ext hk⟩
/-- Within the bound? -/
def smallD (n : Int) : Bool := decide (-16777216 ≤ n ∧ n ≤ 16777216)
theorem small_sp {s : St} {H : Hp} {n : Int} (hX : OwnX X) (hM : Models ro s H) : Sp X Try.prog ro 31 [.int .i64 n] s fun v H' => v = .bool (smallD n) ∧ H' = H := by
  refine Sp.of_body (hX _ _ _ (by decide) (by decide) (by decide) (by decide)) Try.func31 rfl Try.ntmps31 (by simp) ?_
  refine WC.seq ?_
  refine WC.region ?_
  refine WO.cons (SV.assignV (by constructor) ?_) (by decide)
  refine WO.nil ?_
  by_cases h1 : -16777216 ≤ n
  · have hd : decide (-16777216 ≤ n) = true := decide_eq_true h1
    refine WC.seq ?_
    refine WC.region ?_
    refine WO.cons (SV.moveV (by constructor) ?_) (by decide)
    refine WO.cons (SV.geq rfl rfl ?_) (by decide)
    refine WO.cons (SV.moveV (by constructor) ?_) (by decide)
    refine WO.guardY rfl rfl rfl (by assumption) (SV.moveV (by constructor) ?_) (by decide)
    all_goals (refine WO.guardY rfl rfl rfl (by assumption) (SV.leq rfl rfl ?_) (by decide))
    all_goals (refine WO.cons (SV.pickTV rfl (by assumption) (by constructor) ?_) (by decide))
    all_goals refine WO.cons (SV.assignV (by constructor) ?_) (by decide)
    all_goals refine WO.nil ?_
    refine WC.ret ?_
    exact fin_one (e := .ret) (v := .bool _) rfl trivial rfl (by omega) hM ⟨by unfold smallD; simp [h1], rfl⟩
  · have hd : decide (-16777216 ≤ n) = false := decide_eq_false h1
    refine WC.seq ?_
    refine WC.region ?_
    refine WO.cons (SV.moveV (by constructor) ?_) (by decide)
    refine WO.cons (SV.geq rfl rfl ?_) (by decide)
    refine WO.cons (SV.moveV (by constructor) ?_) (by decide)
    refine WO.guardN rfl rfl rfl (by assumption) ?_ (by decide)
    all_goals (refine WO.guardN rfl rfl rfl (by assumption) ?_ (by decide))
    all_goals (refine WO.cons (SV.pickFV rfl (by assumption) (by constructor) ?_) (by decide))
    all_goals refine WO.cons (SV.assignV (by constructor) ?_) (by decide)
    all_goals refine WO.nil ?_
    refine WC.ret ?_
    exact fin_one (e := .ret) (v := .bool _) rfl trivial rfl (by omega) hM ⟨by unfold smallD; simp [h1], rfl⟩
def totM (p : List (List Spt)) : Nat := (p.map List.length).sum
def badS (s : Spt) : Bool := !smallD s.1 || !smallD s.2
def wideM (p : List (List Spt)) : Bool := p.any fun c => c.any badS
def checkM (p : List (List Spt)) : Int := if 16384 < totM p then 213 else if wideM p = true then 214 else 0
theorem drop_cons {α : Type} {L : List α} {i : Nat} (h : i < L.length) : ∃ a, L[i]? = some a ∧ L.drop i = a :: L.drop (i + 1) := ⟨L[i], List.getElem?_eq_getElem h, List.drop_eq_getElem_cons h⟩
set_option maxHeartbeats 1000000 in
theorem check_sp {s : St} {H : Hp} {A : Option Addr} {cp : Nat} {p : List (List Spt)} (hX : OwnX X) (hM : Models ro s H) (hp : PolyH H A p) (hb : p.length ≤ 4611686018427387904) (hbig : totM p ≤ 4611686018427387904) :
    Sp X Try.prog ro 30 [.slice A p.length cp] s fun v H' => v = .int .i64 (checkM p) ∧ H' = H := by
  refine Sp.of_body (hX _ _ _ (by decide) (by decide) (by decide) (by decide)) Try.func30 rfl Try.ntmps30 (by simp) ?_
  refine WC.seq ?_
  refine WC.region ?_
  refine WO.cons (SV.assignV (by constructor) ?_) (by decide)
  refine WO.nil ?_
  refine WC.seq ?_
  refine WC.region ?_
  refine WO.cons (SV.assignV (by constructor) ?_) (by decide)
  refine WO.cons (SV.assignV (by constructor) ?_) (by decide)
  refine WO.nil ?_
  refine WC.seq (WC.seq ?_)
  refine WC.region ?_
  refine WO.cons (SV.moveV (by constructor) ?_) (by decide)
  refine WO.cons (SV.len rfl rfl ?_) (by decide)
  refine WO.cons (SV.moveV (by constructor) ?_) (by decide)
  refine WO.nil ?_
  refine WC.block ?_
  refine WC.loop (D := Nat × Nat × Bool) (fun x => [(3, .int .i64 x.2.1), (4, .bool x.2.2), (9, .slice A p.length cp), (10, .int .i64 p.length), (11, .int .i64 x.1)])
    (fun x s1 => s.next ≤ s1.next ∧ Models ro s1 H ∧ x.1 ≤ p.length ∧ x.2.1 + totM (p.drop x.1) = totM p ∧ (x.2.2 || wideM (p.drop x.1)) = wideM p) (fun x => p.length - x.1) (0, 0, false) ?_ ⟨by omega, hM, Nat.zero_le _, by simp, by simp⟩ ?_
  · exact ⟨rfl, rfl, rfl, rfl, rfl, trivial⟩
  rintro ⟨i, n, w⟩ g s1 ⟨hn1, hM1, hi, e1, e2⟩
  dsimp only at hi e1 e2 ⊢
  refine WC.seq ?_
  refine WC.region ?_
  refine WO.cons (SV.lss rfl rfl ?_) (by decide)
  refine WO.nil ?_
  refine WC.seq ?_
  refine WC.condD rfl (fun hlt hltb => ?_) (fun hlt hltb => ?_)
  · obtain ⟨c, hc, hdr⟩ := drop_cons (L := p) (i := i) (by omega)
    rw [hdr] at e1 e2
    have t1 : totM (c :: p.drop (i + 1)) = c.length + totM (p.drop (i + 1)) := by unfold totM; simp
    have t2 : wideM (c :: p.drop (i + 1)) = (c.any badS || wideM (p.drop (i + 1))) := by unfold wideM; simp
    rw [t1] at e1
    rw [t2] at e2
    obtain ⟨ν, o, B, k, rfl, hcell, hS⟩ := hp i c hc
    refine WC.skip (WC.seq (WC.block (WC.seq ?_)))
    refine WC.region ?_
    refine WO.cons (SV.indexAddr rfl rfl (by omega) ?_) (by decide)
    refine WO.cons (SV.loadC (by assumption) rfl (by assumption) ?_) (by decide)
    refine WO.cons (SV.assignV (by constructor) ?_) (by decide)
    refine WO.nil ?_
    refine WC.seq ?_
    refine WC.region ?_
    refine WO.cons (SV.moveV (by constructor) ?_) (by decide)
    refine WO.cons (SV.moveV (by constructor) ?_) (by decide)
    refine WO.cons (SV.len rfl rfl ?_) (by decide)
    refine WO.cons (SV.add64 rfl rfl (by omega) ?_) (by decide)
    refine WO.cons (SV.assignV (by constructor) ?_) (by decide)
    refine WO.nil ?_
    refine WC.seq ?_
    refine WC.region ?_
    refine WO.cons (SV.moveV (by constructor) ?_) (by decide)
    refine WO.cons (SV.len rfl rfl ?_) (by decide)
    refine WO.cons (SV.moveV (by constructor) ?_) (by decide)
    refine WO.nil ?_
    refine WC.block ?_
    refine WC.loop (D := Nat × Bool) (fun x => [(3, .int .i64 ((n : Int) + c.length)), (4, .bool x.2), (9, .slice (some ⟨ν, o, none⟩) p.length cp), (10, .int .i64 p.length), (11, .int .i64 i), (19, .slice B c.length k), (20, .int .i64 c.length), (21, .int .i64 x.1)])
      (fun x s2 => s.next ≤ s2.next ∧ Models ro s2 H ∧ x.1 ≤ c.length ∧ (x.2 || (c.drop x.1).any badS) = (w || c.any badS)) (fun x => c.length - x.1) (0, w) ?_ ⟨by omega, hM1, Nat.zero_le _, by simp⟩ ?_
    · exact ⟨rfl, rfl, rfl, rfl, rfl, rfl, rfl, rfl, trivial⟩
    rintro ⟨j, u⟩ g s2 ⟨hn2, hM2, hj, f1⟩
    dsimp only at hj f1 ⊢
    refine WC.seq ?_
    refine WC.region ?_
    refine WO.cons (SV.lss rfl rfl ?_) (by decide)
    refine WO.nil ?_
    refine WC.seq ?_
    refine WC.condD rfl (fun hlt2 hlt2b => ?_) (fun hlt2 hlt2b => ?_)
    · obtain ⟨q, hq, hdr2⟩ := drop_cons (L := c) (i := j) (by omega)
      rw [hdr2, List.any_cons] at f1
      obtain ⟨μ, o2, rfl, hq1, hq2⟩ := hS.2 j q hq
      refine WC.skip (WC.seq (WC.block (WC.seq ?_)))
      refine WC.region ?_
      refine WO.cons (SV.indexAddr rfl rfl (by omega) ?_) (by decide)
      refine WO.cons ?_ (by decide)
      refine SV.loadCA (l := [.int .i64 q.1, .int .i64 q.2]) hM2 rfl rfl (fun i v e => ?_) ?_
      · match i, e with
        | 0, e => cases e; exact hq1
        | 1, e => cases e; exact hq2
      refine WO.cons (SV.allocM (by assumption) (fun a8_2 s8_2 hf8_2 hne8_2 hn8_2 hM8_2 => ?_)) (by decide)
      refine WO.cons0 (SV.storeMA (by assumption) rfl rfl rfl rfl (by exact Hp.up_same) (by (simp; done)) (fun s8_3 hn8_3 hM8_3 => ?_))
      refine WO.nil ?_
      rw [Hp.up_up] at hM8_3
      have hsub : ∀ {s9 : St}, Models ro s9 (H.up a8_2 (.row 0 (splice [.int .i64 0, .int .i64 0] 0 [.int .i64 q.1, .int .i64 q.2]))) → Models ro s9 H := fun h => h.sub fun ν o e => Hp.up_ne (hne8_2 ν o e) e
      have hbd : badS q = (!smallD q.1 || !smallD q.2) := rfl
      cases u with
      | true =>
        refine WC.region ?_
        refine WO.cons (SV.moveV (by constructor) ?_) (by decide)
        refine WO.cons (SV.moveV (by constructor) ?_) (by decide)
        refine WO.guardN rfl rfl rfl (by rfl) ?_ (by decide)
        all_goals (refine WO.guardN rfl rfl rfl (by rfl) ?_ (by decide))
        all_goals (refine WO.guardN rfl rfl rfl (by rfl) ?_ (by decide))
        refine WO.guardN rfl rfl rfl (by rfl) ?_ (by decide)
        all_goals (refine WO.cons (SV.pickTV rfl (by rfl) (by constructor) ?_) (by decide))
        all_goals refine WO.cons (SV.moveV (by constructor) ?_) (by decide)
        all_goals (refine WO.guardN rfl rfl rfl (by rfl) ?_ (by decide))
        all_goals (refine WO.guardN rfl rfl rfl (by rfl) ?_ (by decide))
        all_goals (refine WO.guardN rfl rfl rfl (by rfl) ?_ (by decide))
        refine WO.guardN rfl rfl rfl (by rfl) ?_ (by decide)
        all_goals (refine WO.cons (SV.pickTV rfl (by rfl) (by constructor) ?_) (by decide))
        all_goals refine WO.cons (SV.assignV (by constructor) ?_) (by decide)
        all_goals refine WO.nil ?_
        refine WC.region ?_
        refine WO.cons (SV.add64 rfl rfl (by omega) ?_) (by decide)
        refine WO.cons (SV.moveV (by constructor) ?_) (by decide)
        refine WO.nil ?_
        exact ⟨rfl, (j + 1, true), ⟨rfl, rfl, rfl, rfl, rfl, rfl, rfl, by show some (Value.int .i64 ((j : Int) + 1)) = _; rfl, trivial⟩, ⟨by omega, hsub hM8_3, by dsimp only; omega, by dsimp only; rw [← f1]; simp⟩, by dsimp only; omega⟩
      | false =>
        refine WC.region ?_
        refine WO.cons (SV.moveV (by constructor) ?_) (by decide)
        refine WO.cons (SV.moveV (by constructor) ?_) (by decide)
        refine WO.guardY rfl rfl rfl (by rfl) (SV.fieldAddr rfl ?_) (by decide)
        all_goals (refine WO.guardY rfl rfl rfl (by rfl) (SV.loadM (by assumption) rfl (by exact Hp.up_same) (by rfl) ?_) (by decide))
        all_goals (refine WO.guardY rfl rfl rfl (by rfl) ?_ (by decide))
        refine SV.callM rfl rfl (small_sp hX hM8_3) ?_
        rintro v s3 H3 hn3 hM3 ⟨rfl, rfl⟩
        cases hs1 : smallD q.1 with
        | false =>
          rw [hs1] at hbd
          refine WO.guardY rfl rfl rfl (by rfl) (SV.notF rfl (by rfl) ?_) (by decide)
          all_goals (refine WO.cons (SV.pickFV rfl (by rfl) (by constructor) ?_) (by decide))
          all_goals refine WO.cons (SV.moveV (by constructor) ?_) (by decide)
          all_goals (refine WO.guardN rfl rfl rfl (by rfl) ?_ (by decide))
          all_goals (refine WO.guardN rfl rfl rfl (by rfl) ?_ (by decide))
          all_goals (refine WO.guardN rfl rfl rfl (by rfl) ?_ (by decide))
          refine WO.guardN rfl rfl rfl (by rfl) ?_ (by decide)
          all_goals (refine WO.cons (SV.pickTV rfl (by rfl) (by constructor) ?_) (by decide))
          all_goals refine WO.cons (SV.assignV (by constructor) ?_) (by decide)
          all_goals refine WO.nil ?_
          refine WC.region ?_
          refine WO.cons (SV.add64 rfl rfl (by omega) ?_) (by decide)
          refine WO.cons (SV.moveV (by constructor) ?_) (by decide)
          refine WO.nil ?_
          exact ⟨rfl, (j + 1, true), ⟨rfl, rfl, rfl, rfl, rfl, rfl, rfl, by show some (Value.int .i64 ((j : Int) + 1)) = _; rfl, trivial⟩, ⟨by omega, hsub hM3, by dsimp only; omega, by dsimp only; rw [← f1, hbd]; simp⟩, by dsimp only; omega⟩
        | true =>
          rw [hs1] at hbd
          refine WO.guardY rfl rfl rfl (by rfl) (SV.notT rfl (by rfl) ?_) (by decide)
          all_goals (refine WO.cons (SV.pickFV rfl (by rfl) (by constructor) ?_) (by decide))
          all_goals refine WO.cons (SV.moveV (by constructor) ?_) (by decide)
          all_goals (refine WO.guardY rfl rfl rfl (by rfl) (SV.fieldAddr rfl ?_) (by decide))
          all_goals (refine WO.guardY rfl rfl rfl (by rfl) (SV.loadM (by assumption) rfl (by exact Hp.up_same) (by rfl) ?_) (by decide))
          all_goals (refine WO.guardY rfl rfl rfl (by rfl) ?_ (by decide))
          refine SV.callM rfl rfl (small_sp hX hM3) ?_
          rintro v s4 H4 hn4 hM4 ⟨rfl, rfl⟩
          obtain ⟨b2, hb2⟩ : ∃ b, b = smallD q.2 := ⟨_, rfl⟩
          rw [← hb2]
          refine WO.guardY rfl rfl rfl (by rfl) (SV.not rfl ?_) (by decide)
          all_goals (refine WO.cons (SV.pickFV rfl (by rfl) (by constructor) ?_) (by decide))
          all_goals refine WO.cons (SV.assignV (by constructor) ?_) (by decide)
          all_goals refine WO.nil ?_
          refine WC.region ?_
          refine WO.cons (SV.add64 rfl rfl (by omega) ?_) (by decide)
          refine WO.cons (SV.moveV (by constructor) ?_) (by decide)
          refine WO.nil ?_
          exact ⟨rfl, (j + 1, !b2), ⟨rfl, rfl, rfl, rfl, rfl, rfl, rfl, by show some (Value.int .i64 ((j : Int) + 1)) = _; rfl, trivial⟩, ⟨by omega, hsub hM4, by dsimp only; omega, by dsimp only; rw [← f1, hbd, hb2]; simp⟩, by dsimp only; omega⟩
    · refine WC.exit ?_
      have hz : c.drop j = [] := List.drop_eq_nil_of_le (by omega)
      rw [hz, List.any_nil, Bool.or_false] at f1
      subst f1
      refine WC.region ?_
      refine WO.cons (SV.add64 rfl rfl (by omega) ?_) (by decide)
      refine WO.cons (SV.moveV (by constructor) ?_) (by decide)
      refine WO.nil ?_
      exact ⟨rfl, (i + 1, n + c.length, w || c.any badS), ⟨rfl, rfl, rfl, rfl, by show some (Value.int .i64 ((i : Int) + 1)) = _; rfl, trivial⟩, ⟨hn2, hM2, by dsimp only; omega, by dsimp only; omega, by dsimp only; rw [← e2, Bool.or_assoc]⟩, by dsimp only; omega⟩
  · have hz : p.drop i = [] := List.drop_eq_nil_of_le (by omega)
    rw [hz] at e1 e2
    have e1' : n = totM p := by rw [← e1]; rfl
    have e2' : w = wideM p := by rw [← e2]; simp [wideM]
    subst e1' e2'
    refine WC.exit (WC.seq (WC.block (WC.seq ?_)))
    refine WC.region ?_
    refine WO.cons (SV.moveV (by constructor) ?_) (by decide)
    refine WO.cons (SV.gtr rfl rfl ?_) (by decide)
    refine WO.cons (SV.assignV (by constructor) ?_) (by decide)
    refine WO.nil ?_
    by_cases c1 : 16384 < totM p
    · have hd : decide ((16384 : Int) < (totM p : Int)) = true := decide_eq_true (by omega)
      refine WC.condT rfl (by assumption) (WC.seq ?_)
      refine WC.region ?_
      refine WO.cons (SV.assignV (by constructor) ?_) (by decide)
      refine WO.nil ?_
      refine WC.ret ?_
      exact fin_one (e := .ret) (v := .int .i64 _) rfl trivial rfl hn1 hM1 ⟨by unfold checkM; rw [if_pos c1], rfl⟩
    · have hd : decide ((16384 : Int) < (totM p : Int)) = false := decide_eq_false (by omega)
      refine WC.condF rfl (by assumption) (WC.seq ?_)
      refine WC.region ?_
      refine WO.cons (SV.moveV (by constructor) ?_) (by decide)
      refine WO.cons (SV.assignV (by constructor) ?_) (by decide)
      refine WO.nil ?_
      cases hw : wideM p with
      | true =>
        refine WC.condT rfl (by rfl) (WC.seq ?_)
        refine WC.region ?_
        refine WO.cons (SV.assignV (by constructor) ?_) (by decide)
        refine WO.nil ?_
        refine WC.ret ?_
        exact fin_one (e := .ret) (v := .int .i64 _) rfl trivial rfl hn1 hM1 ⟨by unfold checkM; rw [if_neg c1, if_pos hw], rfl⟩
      | false =>
        refine WC.condF rfl (by rfl) (WC.skip (WC.seq ?_))
        refine WC.region ?_
        refine WO.cons (SV.assignV (by constructor) ?_) (by decide)
        refine WO.nil ?_
        refine WC.ret ?_
        exact fin_one (e := .ret) (v := .int .i64 _) rfl trivial rfl hn1 hM1 ⟨by unfold checkM; rw [if_neg c1, if_neg (by rw [hw]; decide)], rfl⟩
end Go.Proofs.Ytmlplblhabdbpaa

namespace Go.Proofs.Ytmlplblhabdbpaa
open Go.Ab
variable {X : CallE} {ro : Nat}
set_option maxRecDepth 10000
set_option linter.unusedVariables false
set_option linter.unusedSimpArgs false
/-- The edge between two points, if it crosses rows. -/
def edgeM (a b : Spt) : List Ed := if a.2 < b.2 then [⟨a.1, a.2, b.1, b.2, 1⟩] else if b.2 < a.2 then [⟨b.1, b.2, a.1, a.2, -1⟩] else []
def edgeAt (c : List Spt) (i : Nat) : List Ed := edgeM (c.getD i (0, 0)) (c.getD ((i + 1) % c.length) (0, 0))
def edgesC (c : List Spt) : List Ed := (List.range c.length).flatMap (edgeAt c)
def edgesM (p : List (List Spt)) : List Ed := p.flatMap edgesC
theorem edgeM_len (a b : Spt) : (edgeM a b).length ≤ 1 := by
  unfold edgeM
  split
  · simp
  · split <;> simp
theorem len_le_tot : ∀ {p : List (List Spt)} {c : List Spt}, c ∈ p → c.length ≤ totM p
  | d :: p, c, h => by
    unfold totM
    simp only [List.map_cons, List.sum_cons]
    rcases List.mem_cons.mp h with rfl | h
    · omega
    · have := len_le_tot h; unfold totM at this; omega
theorem flat_le {α β : Type} {f : α → List β} (h : ∀ a, (f a).length ≤ 1) : ∀ L : List α, (L.flatMap f).length ≤ L.length
  | [] => by simp
  | a :: L => by simp only [List.flatMap_cons, List.length_append, List.length_cons]; have := h a; have := flat_le h L; omega
theorem edgesC_len (c : List Spt) : (edgesC c).length ≤ c.length := by
  have := flat_le (f := edgeAt c) (fun i => edgeM_len _ _) (List.range c.length)
  rwa [List.length_range] at this
theorem edgesM_len : ∀ p : List (List Spt), (edgesM p).length ≤ totM p
  | [] => by simp [edgesM, totM]
  | c :: p => by
    have := edgesC_len c
    have := edgesM_len p
    unfold edgesM totM at *
    simp only [List.flatMap_cons, List.length_append, List.map_cons, List.sum_cons]; omega
def okS (s : Spt) : Prop := (-16777216 ≤ s.1 ∧ s.1 ≤ 16777216) ∧ (-16777216 ≤ s.2 ∧ s.2 ≤ 16777216)
theorem edgeM_ok {a b : Spt} (ha : okS a) (hb : okS b) : ∀ e ∈ edgeM a b, e.Ok ∧ e.y0 < e.y1 ∧ (e.by' = 1 ∨ e.by' = -1) := by
  intro e he
  unfold edgeM at he
  obtain ⟨a1, a2⟩ := ha
  obtain ⟨b1, b2⟩ := hb
  split at he
  · rename_i h; rw [List.mem_singleton.mp he]; exact ⟨⟨a1, a2, b1, b2⟩, h, .inl rfl⟩
  · split at he
    · rename_i h; rw [List.mem_singleton.mp he]; exact ⟨⟨b1, b2, a1, a2⟩, h, .inr rfl⟩
    · cases he
theorem wide_ok {p : List (List Spt)} (h : wideM p = false) : ∀ c ∈ p, ∀ s ∈ c, okS s := by
  intro c hc s hs
  unfold wideM at h
  rw [List.any_eq_false] at h
  have h2 := h c hc
  have h3 : c.any badS = false := by simpa using h2
  rw [List.any_eq_false] at h3
  have h4 := h3 s hs
  unfold badS smallD at h4
  simp at h4
  exact ⟨h4.1, h4.2⟩
theorem edgesM_ok {p : List (List Spt)} (h : wideM p = false) : ∀ e ∈ edgesM p, e.Ok ∧ e.y0 < e.y1 ∧ (e.by' = 1 ∨ e.by' = -1) := by
  intro e he
  unfold edgesM at he
  obtain ⟨c, hc, he⟩ := List.mem_flatMap.mp he
  unfold edgesC at he
  obtain ⟨i, hi, he⟩ := List.mem_flatMap.mp he
  have hi := List.mem_range.mp hi
  have hm : (i + 1) % c.length < c.length := Nat.mod_lt _ (by omega)
  have g : ∀ k, k < c.length → okS (c.getD k (0, 0)) := fun k hk => by
    rw [List.getD_eq_getElem?_getD, List.getElem?_eq_getElem hk]
    exact wide_ok h c hc _ (List.getElem_mem hk)
  exact edgeM_ok (g _ hi) (g _ hm) e he

set_option maxHeartbeats 1000000 in
/-- raster.edges: a row of the edges, by their lower ends. -/
theorem edges_sp {s : St} {H : Hp} {A : Option Addr} {cp : Nat} {p : List (List Spt)} (hX : OwnX X) (hM : Models ro s H) (hp : PolyH H A p) (hb : p.length ≤ 4611686018427387904) (hbig : totM p ≤ 16384) (hw : wideM p = false) :
    Sp X Try.prog ro 33 [.slice A p.length cp] s fun v H' => ∃ L, SlO H' v 5 L.length (L.flatMap encE) ∧ L.Perm (edgesM p) ∧ Srt Ed.y0 L ∧ Ext H H' ∧ ∀ μ, baseV v = some μ → H μ = none := by
  have hlen := edgesM_len p
  refine Sp.of_body (hX _ _ _ (by decide) (by decide) (by decide) (by decide)) Try.func33 rfl Try.ntmps33 (by simp) ?_
  refine WC.seq ?_
  refine WC.region ?_
  refine WO.cons (SV.assignV (by constructor) ?_) (by decide)
  refine WO.nil ?_
  refine WC.seq ?_
  refine WC.region ?_
  refine WO.cons (SV.assignV (by constructor) ?_) (by decide)
  refine WO.nil ?_
  refine WC.seq (WC.seq ?_)
  refine WC.region ?_
  refine WO.cons (SV.moveV (by constructor) ?_) (by decide)
  refine WO.cons (SV.len rfl rfl ?_) (by decide)
  refine WO.cons (SV.moveV (by constructor) ?_) (by decide)
  refine WO.nil ?_
  refine WC.block ?_
  refine WC.loop (D := Nat × Value × List Ed) (fun x => [(3, x.2.1), (9, .slice A p.length cp), (10, .int .i64 p.length), (11, .int .i64 x.1)])
    (fun x s1 => s.next ≤ s1.next ∧ ∃ H1, Models ro s1 H1 ∧ Ext H H1 ∧ SlO H1 x.2.1 5 x.2.2.length (x.2.2.flatMap encE) ∧ (∀ μ, baseV x.2.1 = some μ → H μ = none) ∧ x.1 ≤ p.length ∧ x.2.2 ++ (p.drop x.1).flatMap edgesC = edgesM p) (fun x => p.length - x.1) (0, .slice none 0 0, []) ?_ ⟨by omega, H, hM, Ext.refl, .inl ⟨rfl, rfl, rfl⟩, (fun _ h => by cases h), Nat.zero_le _, by simp [edgesM]⟩ ?_
  · exact ⟨rfl, rfl, rfl, rfl, trivial⟩
  rintro ⟨i, vo, M⟩ g s1 ⟨hn1, H1, hM1, hE1, hv1, hf1, hi, e1⟩
  dsimp only at hi e1 hv1 hf1 ⊢
  refine WC.seq ?_
  refine WC.region ?_
  refine WO.cons (SV.lss rfl rfl ?_) (by decide)
  refine WO.nil ?_
  refine WC.seq ?_
  refine WC.condD rfl (fun hlt hltb => ?_) (fun hlt hltb => ?_)
  · obtain ⟨c, hc, hdr⟩ := drop_cons (L := p) (i := i) (by omega)
    rw [hdr, List.flatMap_cons] at e1
    obtain ⟨ν, o, B, k, rfl, hcell, hS⟩ := hp i c hc
    have hcell1 := cellH_ext hE1 hcell
    have hcl : c.length ≤ totM p := by
      exact len_le_tot (List.mem_of_getElem? hc)
    refine WC.skip (WC.seq (WC.block (WC.seq ?_)))
    refine WC.region ?_
    refine WO.cons (SV.indexAddr rfl rfl (by omega) ?_) (by decide)
    refine WO.cons (SV.loadC (by assumption) rfl (by assumption) ?_) (by decide)
    refine WO.cons (SV.assignV (by constructor) ?_) (by decide)
    refine WO.nil ?_
    refine WC.seq ?_
    refine WC.region ?_
    refine WO.cons (SV.moveV (by constructor) ?_) (by decide)
    refine WO.cons (SV.len rfl rfl ?_) (by decide)
    refine WO.cons (SV.moveV (by constructor) ?_) (by decide)
    refine WO.nil ?_
    refine WC.block ?_
    refine WC.loop (D := Nat × Value × List Ed) (fun x => [(3, x.2.1), (5, .slice B c.length k), (9, .slice (some ⟨ν, o, none⟩) p.length cp), (10, .int .i64 p.length), (11, .int .i64 i), (15, .slice B c.length k), (16, .int .i64 c.length), (17, .int .i64 x.1)])
      (fun x s2 => s.next ≤ s2.next ∧ ∃ H2, Models ro s2 H2 ∧ Ext H H2 ∧ SlO H2 x.2.1 5 x.2.2.length (x.2.2.flatMap encE) ∧ (∀ μ, baseV x.2.1 = some μ → H μ = none) ∧ x.1 ≤ c.length ∧ x.2.2 ++ (((List.range c.length).drop x.1).flatMap (edgeAt c) ++ (p.drop (i + 1)).flatMap edgesC) = edgesM p) (fun x => c.length - x.1) (0, vo, M) ?_ ⟨by omega, H1, hM1, hE1, hv1, hf1, Nat.zero_le _, by rw [List.drop_zero]; exact e1⟩ ?_
    · exact ⟨rfl, rfl, rfl, rfl, rfl, rfl, rfl, rfl, trivial⟩
    rintro ⟨j, v2, M2⟩ g s2 ⟨hn2, H2, hM2, hE2, hv2, hf2, hj, f1⟩
    dsimp only at hj f1 hv2 hf2 ⊢
    refine WC.seq ?_
    refine WC.region ?_
    refine WO.cons (SV.lss rfl rfl ?_) (by decide)
    refine WO.nil ?_
    refine WC.seq ?_
    refine WC.condD rfl (fun hlt2 hlt2b => ?_) (fun hlt2 hlt2b => ?_)
    · obtain ⟨q, hq, hdr2⟩ := drop_cons (L := List.range c.length) (i := j) (by rw [List.length_range]; omega)
      have hq : q = j := by rw [List.getElem?_range (by omega)] at hq; cases hq; rfl
      subst hq
      rw [hdr2, List.flatMap_cons] at f1
      have hjl : q < c.length := by omega
      have hml : (q + 1) % c.length < c.length := Nat.mod_lt _ (by omega)
      have hr : ((q : Int) + 1).tmod c.length = (((q + 1) % c.length : Nat) : Int) := by
        have := Int.ofNat_tmod (q + 1) c.length
        push_cast at this ⊢
        exact this.symm
      have hr0 : 0 ≤ ((q : Int) + 1).tmod c.length ∧ ((q : Int) + 1).tmod c.length < c.length := by omega
      have hr2 : (((q : Int) + 1).tmod c.length).toNat = (q + 1) % c.length := by omega
      obtain ⟨a, ha⟩ : ∃ a, c[q]? = some a := ⟨_, List.getElem?_eq_getElem hjl⟩
      obtain ⟨b, hb2⟩ : ∃ b, c[(q + 1) % c.length]? = some b := ⟨_, List.getElem?_eq_getElem hml⟩
      have hat : edgeAt c q = edgeM a b := by unfold edgeAt; rw [List.getD_eq_getElem?_getD, List.getD_eq_getElem?_getD, ha, hb2]; rfl
      rw [hat] at f1
      obtain ⟨μ, o2, rfl, ha1, ha2⟩ := (hS.ext hE2).2 q a ha
      obtain ⟨μ', o3, hBe, hb1, hb3⟩ := (hS.ext hE2).2 _ b hb2
      cases hBe
      rw [← hr2] at hb1 hb3
      refine WC.skip (WC.seq (WC.block (WC.seq ?_)))
      refine WC.region ?_
      refine WO.cons (SV.moveV (by constructor) ?_) (by decide)
      refine WO.cons (SV.indexAddr rfl rfl (by omega) ?_) (by decide)
      refine WO.cons ?_ (by decide)
      refine SV.loadCA (l := [.int .i64 a.1, .int .i64 a.2]) hM2 rfl rfl (fun i v e => ?_) ?_
      · match i, e with
        | 0, e => cases e; exact ha1
        | 1, e => cases e; exact ha2
      refine WO.cons (SV.allocM (by assumption) (fun a7_3 s7_3 hf7_3 hne7_3 hn7_3 hM7_3 => ?_)) (by decide)
      refine WO.cons (SV.assignV (by constructor) ?_) (by decide)
      refine WO.cons0 (SV.storeMA (by assumption) rfl rfl rfl rfl (by exact Hp.up_same) (by (simp; done)) (fun s7_5 hn7_5 hM7_5 => ?_))
      refine WO.nil ?_
      rw [Hp.up_up] at hM7_5
      replace hM7_5 : Models ro s7_5 (H2.up a7_3 (.row 0 [.int .i64 a.1, .int .i64 a.2])) := hM7_5
      have hE3 : Ext H (H2.up a7_3 (.row 0 [.int .i64 a.1, .int .i64 a.2])) := hE2.up fun ν o e => hne7_3 ν o (hE2 ν o e)
      have hE23 : Ext H2 (H2.up a7_3 (.row 0 [.int .i64 a.1, .int .i64 a.2])) := Ext.refl.up hne7_3
      have hv3 := hv2.upF (o := .row 0 [.int .i64 a.1, .int .i64 a.2]) hne7_3
      refine WC.seq ?_
      refine WC.region ?_
      refine WO.cons (SV.moveV (by constructor) ?_) (by decide)
      refine WO.cons (SV.moveV (by constructor) ?_) (by decide)
      refine WO.cons (SV.add64 rfl rfl (by omega) ?_) (by decide)
      refine WO.cons (SV.moveV (by constructor) ?_) (by decide)
      refine WO.cons (SV.len rfl rfl ?_) (by decide)
      refine WO.cons (SV.rem rfl rfl (by omega) ?_) (by decide)
      refine WO.cons (SV.indexAddr rfl rfl (by omega) ?_) (by decide)
      refine WO.cons ?_ (by decide)
      refine SV.loadCA (l := [.int .i64 b.1, .int .i64 b.2]) hM7_5 rfl rfl (fun i v e => ?_) ?_
      · match i, e with
        | 0, e => cases e; exact cellH_ext hE23 hb1
        | 1, e => cases e; exact cellH_ext hE23 hb3
      refine WO.cons (SV.allocM (by assumption) (fun a8_8 s8_8 hf8_8 hne8_8 hn8_8 hM8_8 => ?_)) (by decide)
      refine WO.cons0 (SV.storeMA (by assumption) rfl rfl rfl rfl (by exact Hp.up_same) (by (simp; done)) (fun s8_9 hn8_9 hM8_9 => ?_))
      refine WO.nil ?_
      rw [Hp.up_up] at hM8_9
      replace hM8_9 : Models ro s8_9 ((H2.up a7_3 (.row 0 [.int .i64 a.1, .int .i64 a.2])).up a8_8 (.row 0 [.int .i64 b.1, .int .i64 b.2])) := hM8_9
      have hE4 : Ext H ((H2.up a7_3 (.row 0 [.int .i64 a.1, .int .i64 a.2])).up a8_8 (.row 0 [.int .i64 b.1, .int .i64 b.2])) := hE3.up fun ν o e => hne8_8 ν o (hE3 ν o e)
      have hv4 := hv3.upF (o := .row 0 [.int .i64 b.1, .int .i64 b.2]) hne8_8
      have hA : ((H2.up a7_3 (.row 0 [.int .i64 a.1, .int .i64 a.2])).up a8_8 (.row 0 [.int .i64 b.1, .int .i64 b.2])) a7_3 = some (.row 0 [.int .i64 a.1, .int .i64 a.2]) := Hp.up_ne (hne8_8 _ _ Hp.up_same) Hp.up_same
      have hB : ((H2.up a7_3 (.row 0 [.int .i64 a.1, .int .i64 a.2])).up a8_8 (.row 0 [.int .i64 b.1, .int .i64 b.2])) a8_8 = some (.row 0 [.int .i64 b.1, .int .i64 b.2]) := Hp.up_same
      generalize ((H2.up a7_3 (.row 0 [.int .i64 a.1, .int .i64 a.2])).up a8_8 (.row 0 [.int .i64 b.1, .int .i64 b.2])) = H4 at *
      refine WC.block (WC.seq ?_)
      refine WC.region ?_
      refine WO.cons (SV.fieldAddr rfl ?_) (by decide)
      refine WO.cons (SV.loadM (by assumption) rfl (by assumption) (by rfl) ?_) (by decide)
      refine WO.cons (SV.fieldAddr rfl ?_) (by decide)
      refine WO.cons (SV.loadM (by assumption) rfl (by assumption) (by rfl) ?_) (by decide)
      refine WO.cons (SV.lss rfl rfl ?_) (by decide)
      refine WO.cons (SV.assignV (by constructor) ?_) (by decide)
      refine WO.nil ?_
      have hMl : M2.length ≤ totM p := by
        have := congrArg List.length f1
        simp only [List.length_append] at this
        omega
      have step : ∀ (v9 : Value) (H9 : Hp) (N : List Ed), edgeM a b = N → SlO H9 v9 5 (M2 ++ N).length ((M2 ++ N).flatMap encE) → (M2 ++ N) ++ (((List.range c.length).drop (q + 1)).flatMap (edgeAt c) ++ (p.drop (i + 1)).flatMap edgesC) = edgesM p := fun v9 H9 N hN _ => by
        rw [← f1, hN]; simp only [List.append_assoc]
      by_cases c1 : a.2 < b.2
      · have hd : decide (a.2 < b.2) = true := decide_eq_true c1
        have hN : edgeM a b = [⟨a.1, a.2, b.1, b.2, 1⟩] := by unfold edgeM; rw [if_pos c1]
        refine WC.condT rfl (by assumption) ?_
        refine WC.region ?_
        refine WO.cons (SV.move ?_) (by decide)
        refine WO.cons (SV.fieldAddr rfl ?_) (by decide)
        refine WO.cons (SV.loadM (by assumption) rfl (by assumption) (by rfl) ?_) (by decide)
        refine WO.cons (SV.fieldAddr rfl ?_) (by decide)
        refine WO.cons (SV.loadM (by assumption) rfl (by assumption) (by rfl) ?_) (by decide)
        refine WO.cons (SV.fieldAddr rfl ?_) (by decide)
        refine WO.cons (SV.loadM (by assumption) rfl (by assumption) (by rfl) ?_) (by decide)
        refine WO.cons (SV.fieldAddr rfl ?_) (by decide)
        refine WO.cons (SV.loadM (by assumption) rfl (by assumption) (by rfl) ?_) (by decide)
        refine WO.cons (SV.build rfl ?_) (by decide)
        refine WO.cons (SV.buildSliceM (by assumption) rfl rfl (fun a10_10 s10_10 hf10_10 hne10_10 hn10_10 hM10_10 => ?_)) (by decide)
        refine WO.cons ?_ (by decide)
        replace hM10_10 : Models ro s10_10 (H4.up a10_10 (.row 5 (encE ⟨a.1, a.2, b.1, b.2, 1⟩))) := hM10_10
        refine SV.appendM (sz := 5) (sz' := 5) (n := M2.length) (m := 1) (vs := M2.flatMap encE) (xs := encE ⟨a.1, a.2, b.1, b.2, 1⟩) rfl hM10_10 rfl rfl (hv4.upF hne10_10) (Src.row Hp.up_same rfl rfl (fun i v hv => by rw [Nat.zero_add]; exact hv)) rfl (by omega) (fun v8 s8 H8 hn8 hM8 hv8 hk8 hnew8 _ => ?_)
        refine WO.cons (SV.assign ?_) (by decide)
        refine WO.nil ?_
        refine WC.region ?_
        refine WO.cons (SV.add64 rfl rfl (by omega) ?_) (by decide)
        refine WO.cons (SV.moveV (by constructor) ?_) (by decide)
        refine WO.nil ?_
        have hE5 : Ext H (H4.up a10_10 (.row 5 (encE ⟨a.1, a.2, b.1, b.2, 1⟩))) := hE4.up fun ν o e => hne10_10 ν o (hE4 ν o e)
        have hs8 : SlO H8 v8 5 (M2 ++ [(⟨a.1, a.2, b.1, b.2, 1⟩ : Ed)]).length ((M2 ++ [(⟨a.1, a.2, b.1, b.2, 1⟩ : Ed)]).flatMap encE) := by rw [List.flatMap_append, List.length_append]; simpa using hv8
        exact ⟨rfl, (q + 1, v8, M2 ++ [⟨a.1, a.2, b.1, b.2, 1⟩]), ⟨rfl, rfl, rfl, rfl, rfl, rfl, rfl, rfl, trivial⟩, ⟨by omega, H8, hM8, hE5.kept hk8 hf2, hs8, hnew8.none hE5 hf2, by dsimp only; omega, step v8 H8 _ hN hs8⟩, by dsimp only; omega⟩
      · have hd : decide (a.2 < b.2) = false := decide_eq_false c1
        refine WC.condF rfl (by assumption) (WC.seq ?_)
        refine WC.region ?_
        refine WO.cons (SV.fieldAddr rfl ?_) (by decide)
        refine WO.cons (SV.loadM (by assumption) rfl (by assumption) (by rfl) ?_) (by decide)
        refine WO.cons (SV.fieldAddr rfl ?_) (by decide)
        refine WO.cons (SV.loadM (by assumption) rfl (by assumption) (by rfl) ?_) (by decide)
        refine WO.cons (SV.gtr rfl rfl ?_) (by decide)
        refine WO.cons (SV.assignV (by constructor) ?_) (by decide)
        refine WO.nil ?_
        by_cases c2 : b.2 < a.2
        · have hd : decide (b.2 < a.2) = true := decide_eq_true c2
          have hN : edgeM a b = [⟨b.1, b.2, a.1, a.2, -1⟩] := by unfold edgeM; rw [if_neg c1, if_pos c2]
          refine WC.condT rfl (by assumption) ?_
          refine WC.region ?_
          refine WO.cons (SV.move ?_) (by decide)
          refine WO.cons (SV.fieldAddr rfl ?_) (by decide)
          refine WO.cons (SV.loadM (by assumption) rfl (by assumption) (by rfl) ?_) (by decide)
          refine WO.cons (SV.fieldAddr rfl ?_) (by decide)
          refine WO.cons (SV.loadM (by assumption) rfl (by assumption) (by rfl) ?_) (by decide)
          refine WO.cons (SV.fieldAddr rfl ?_) (by decide)
          refine WO.cons (SV.loadM (by assumption) rfl (by assumption) (by rfl) ?_) (by decide)
          refine WO.cons (SV.fieldAddr rfl ?_) (by decide)
          refine WO.cons (SV.loadM (by assumption) rfl (by assumption) (by rfl) ?_) (by decide)
          refine WO.cons (SV.build rfl ?_) (by decide)
          refine WO.cons (SV.buildSliceM (by assumption) rfl rfl (fun a12_10 s12_10 hf12_10 hne12_10 hn12_10 hM12_10 => ?_)) (by decide)
          refine WO.cons ?_ (by decide)
          replace hM12_10 : Models ro s12_10 (H4.up a12_10 (.row 5 (encE ⟨b.1, b.2, a.1, a.2, -1⟩))) := hM12_10
          refine SV.appendM (sz := 5) (sz' := 5) (n := M2.length) (m := 1) (vs := M2.flatMap encE) (xs := encE ⟨b.1, b.2, a.1, a.2, -1⟩) rfl hM12_10 rfl rfl (hv4.upF hne12_10) (Src.row Hp.up_same rfl rfl (fun i v hv => by rw [Nat.zero_add]; exact hv)) rfl (by omega) (fun v8 s8 H8 hn8 hM8 hv8 hk8 hnew8 _ => ?_)
          refine WO.cons (SV.assign ?_) (by decide)
          refine WO.nil ?_
          refine WC.region ?_
          refine WO.cons (SV.add64 rfl rfl (by omega) ?_) (by decide)
          refine WO.cons (SV.moveV (by constructor) ?_) (by decide)
          refine WO.nil ?_
          have hE5 : Ext H (H4.up a12_10 (.row 5 (encE ⟨b.1, b.2, a.1, a.2, -1⟩))) := hE4.up fun ν o e => hne12_10 ν o (hE4 ν o e)
          have hs8 : SlO H8 v8 5 (M2 ++ [(⟨b.1, b.2, a.1, a.2, -1⟩ : Ed)]).length ((M2 ++ [(⟨b.1, b.2, a.1, a.2, -1⟩ : Ed)]).flatMap encE) := by rw [List.flatMap_append, List.length_append]; simpa using hv8
          exact ⟨rfl, (q + 1, v8, M2 ++ [⟨b.1, b.2, a.1, a.2, -1⟩]), ⟨rfl, rfl, rfl, rfl, rfl, rfl, rfl, rfl, trivial⟩, ⟨by omega, H8, hM8, hE5.kept hk8 hf2, hs8, hnew8.none hE5 hf2, by dsimp only; omega, step v8 H8 _ hN hs8⟩, by dsimp only; omega⟩
        · have hd : decide (b.2 < a.2) = false := decide_eq_false c2
          have hN : edgeM a b = [] := by unfold edgeM; rw [if_neg c1, if_neg c2]
          refine WC.condF rfl (by assumption) (WC.skip ?_)
          refine WC.region ?_
          refine WO.cons (SV.add64 rfl rfl (by omega) ?_) (by decide)
          refine WO.cons (SV.moveV (by constructor) ?_) (by decide)
          refine WO.nil ?_
          have hs8 : SlO H4 v2 5 (M2 ++ []).length ((M2 ++ []).flatMap encE) := by rw [List.append_nil]; exact hv4
          exact ⟨rfl, (q + 1, v2, M2 ++ []), ⟨rfl, rfl, rfl, rfl, rfl, rfl, rfl, rfl, trivial⟩, ⟨by omega, H4, hM8_9, hE4, hs8, hf2, by dsimp only; omega, step v2 H4 _ hN hs8⟩, by dsimp only; omega⟩
    · refine WC.exit ?_
      have hz : (List.range c.length).drop j = [] := List.drop_eq_nil_of_le (by rw [List.length_range]; omega)
      rw [hz, List.flatMap_nil, List.nil_append] at f1
      refine WC.region ?_
      refine WO.cons (SV.add64 rfl rfl (by omega) ?_) (by decide)
      refine WO.cons (SV.moveV (by constructor) ?_) (by decide)
      refine WO.nil ?_
      exact ⟨rfl, (i + 1, v2, M2), ⟨rfl, rfl, rfl, rfl, trivial⟩, ⟨by omega, H2, hM2, hE2, hv2, hf2, by dsimp only; omega, f1⟩, by dsimp only; omega⟩
  · have hz : p.drop i = [] := List.drop_eq_nil_of_le (by omega)
    rw [hz, List.flatMap_nil, List.append_nil] at e1
    subst e1
    refine WC.exit (WC.seq ?_)
    refine WC.region ?_
    refine WO.cons (SV.move ?_) (by decide)
    refine WO.cons ?_ (by decide)
    refine SV.callM rfl rfl (sortE_sp hX hM1 hv1 rfl (by omega) (fun e he => (edgesM_ok hw e he).1)) ?_
    rintro v s3 H3 hn3 hM3 ⟨rfl, L', hv3, hk3, hp3, hs3⟩
    refine WO.nil ?_
    refine WC.seq ?_
    refine WC.region ?_
    refine WO.cons (SV.move ?_) (by decide)
    refine WO.cons (SV.assign ?_) (by decide)
    refine WO.nil ?_
    refine WC.ret ?_
    refine fin_one (e := .ret) rfl trivial rfl (by omega) hM3 ⟨L', by rw [hp3.length_eq]; exact hv3, hp3, hs3, hE1.kept hk3 hf1, hf1⟩
end Go.Proofs.Ytmlplblhabdbpaa
