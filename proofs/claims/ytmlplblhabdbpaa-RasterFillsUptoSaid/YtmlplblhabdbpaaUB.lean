/- A part of the proof: rules for walking code over the evaluator, and what the functions that were walked come to: no condition but those that each theorem states. -/
import Derived.Test.YtmlplblhabdbpaaUA
set_option linter.unusedVariables false
set_option linter.unusedSimpArgs false
namespace Go.Proofs.Ytmlplblhabdbpaa
open Go.Ab
variable {X : CallE} {ro : Nat}
set_option maxRecDepth 10000
set_option linter.unusedVariables false
set_option linter.unusedSimpArgs false

set_option maxHeartbeats 1000000 in
/-- symMerge: two neighbouring parts in order become one. -/
theorem symM_sp (hX : OwnX X) : ∀ (N : Nat) {s : St} {H : Hp} {v : Value} {n : Nat} {a m b : Int} {A X0 Y0 B : List Ed}, X0.length + Y0.length ≤ N → Models ro s H → SlO H v 5 n ((A ++ (X0 ++ (Y0 ++ B))).flatMap encE) → (A ++ (X0 ++ (Y0 ++ B))).length = n → n ≤ 1000000 →
    (∀ e ∈ X0 ++ Y0, e.Ok) → a = A.length → m = A.length + X0.length → b = A.length + X0.length + Y0.length → 0 < X0.length → 0 < Y0.length → Srt Ed.y0 X0 → Srt Ed.y0 Y0 →
    Sp X Try.prog ro 89 [v, .int .i64 a, .int .i64 m, .int .i64 b, cmpV] s fun r H' => r = .tuple #[] ∧ ∃ Z, SlO H' v 5 n ((A ++ (Z ++ B)).flatMap encE) ∧ KeptBut H H' v ∧ Z.Perm (X0 ++ Y0) ∧ Srt Ed.y0 Z := by
  intro N
  induction N
  · intro s H v n a m b A X0 Y0 B hN _ _ _ _ _ _ _ _ h1 _ _ _; omega
  rename_i N ih
  intro s H v n a m b A X0 Y0 B hN hM hv hn hbig hok ha hm hb hx0 hy0 sX sY
  have hn0 := hn
  simp only [List.length_append] at hn0
  refine Sp.of_body (hX _ _ _ (by decide) (by decide) (by decide) (by decide)) Try.func89 rfl Try.ntmps89 (by simp) ?_
  refine WC.seq (WC.seq ?_)
  refine WC.region ?_
  refine WO.cons (SV.moveV (by constructor) ?_) (by decide)
  refine WO.cons (SV.moveV (by constructor) ?_) (by decide)
  refine WO.cons (SV.sub64 rfl rfl (by omega) ?_) (by decide)
  refine WO.cons (SV.eqlI rfl rfl ?_) (by decide)
  refine WO.nil ?_
  refine WC.condD rfl (fun h1 h1b => ?_) (fun h1 h1b => ?_)
  · obtain ⟨x, rfl⟩ : ∃ x, X0 = [x] := List.length_eq_one_iff.mp (by omega)
    simp only [List.length_singleton] at hm hb hn0
    refine WC.seq ?_
    refine WC.region ?_
    refine WO.cons (SV.moveV (by constructor) ?_) (by decide)
    refine WO.cons (SV.assignV (by constructor) ?_) (by decide)
    refine WO.nil ?_
    refine WC.seq ?_
    refine WC.region ?_
    refine WO.cons (SV.moveV (by constructor) ?_) (by decide)
    refine WO.cons (SV.assignV (by constructor) ?_) (by decide)
    refine WO.nil ?_
    refine WC.seq (WC.block ?_)
    refine WC.loop (D := Int × Int) (fun q => [(0, v), (1, .int .i64 a), (4, cmpV), (10, .int .i64 q.1), (11, .int .i64 q.2)])
      (fun q s1 => s.next ≤ s1.next ∧ Models ro s1 H ∧ m ≤ q.1 ∧ q.1 ≤ q.2 ∧ q.2 ≤ b ∧ (m < q.1 → ∀ y, Y0[(q.1 - 1 - m).toNat]? = some y → y.y0 ≤ x.y0) ∧ (q.2 < b → ∀ y, Y0[(q.2 - m).toNat]? = some y → x.y0 ≤ y.y0))
      (fun q => (q.2 - q.1).toNat) (m, b) ?_ ⟨by omega, hM, by dsimp only; omega, by dsimp only; omega, by dsimp only; omega, fun h => by dsimp only at h; omega, fun h => by dsimp only at h; omega⟩ ?_
    · exact ⟨rfl, rfl, rfl, rfl, rfl, trivial⟩
    rintro ⟨i, j⟩ g s1 ⟨hn1, hM1, f1, f2, f3, f4, f5⟩
    dsimp only at f1 f2 f3 f4 f5 ⊢
    refine WC.seq (WC.seq ?_)
    refine WC.region ?_
    refine WO.cons (SV.moveV (by constructor) ?_) (by decide)
    refine WO.cons (SV.moveV (by constructor) ?_) (by decide)
    refine WO.cons (SV.lss rfl rfl ?_) (by decide)
    refine WO.nil ?_
    refine WC.condD rfl (fun hlt hltb => ?_) (fun hlt hltb => ?_)
    · refine WC.skip (WC.block (WC.seq ?_))
      refine WC.region ?_
      refine WO.cons (SV.moveV (by constructor) ?_) (by decide)
      refine WO.cons (SV.moveV (by constructor) ?_) (by decide)
      refine WO.cons (SV.add64 rfl rfl (by omega) ?_) (by decide)
      refine WO.cons (SV.convU Try.underlying3 Try.underlying73 rfl (by omega) ?_) (by decide)
      refine WO.cons (SV.shr1 rfl rfl ?_) (by decide)
      refine WO.cons (SV.conv64 Try.underlying73 Try.underlying3 rfl (by omega) ?_) (by decide)
      refine WO.cons (SV.assignV (by constructor) ?_) (by decide)
      refine WO.nil ?_
      obtain ⟨h, hh⟩ : ∃ h, h = (i + j) / 2 := ⟨_, rfl⟩
      rw [← hh]
      obtain ⟨y, hy⟩ : ∃ y, Y0[(h - m).toNat]? = some y := ⟨_, List.getElem?_eq_getElem (by omega)⟩
      have hjy : (A ++ ([x] ++ (Y0 ++ B)))[h.toNat]? = some y := by
        rw [← List.append_assoc]; exact get_in hy (by simp; omega)
      have hjx : (A ++ ([x] ++ (Y0 ++ B)))[A.length]? = some x := get_mid rfl
      obtain ⟨ν, cp, rfl⟩ := hv.nonnil (by omega)
      refine WC.seq ?_
      refine WC.draw [0, 1, 2, 3, 4, 5, 6, 7, 8, 9, 10] (by kernel_rfl) (by kernel_rfl) (by kernel_rfl) ?_
      refine WD.cons (SV.moveV (by constructor) ?_) (by decide)
      refine WD.cons (SV.moveV (by constructor) ?_) (by decide)
      refine WD.cons (SV.moveV (by constructor) ?_) (by decide)
      refine WD.cons (SV.indexAddr rfl rfl (by omega) ?_) (by decide)
      refine WD.cons ?_ (by decide)
      refine SV.loadSl hM1 rfl hv encE_len hn hjy (by omega) ?_
      refine WD.cons (SV.moveV (by constructor) ?_) (by decide)
      refine WD.cons (SV.moveV (by constructor) ?_) (by decide)
      refine WD.cons (SV.indexAddr rfl rfl (by omega) ?_) (by decide)
      refine WD.cons ?_ (by decide)
      refine SV.loadSl hM1 rfl hv encE_len hn hjx (by omega) ?_
      refine WD.cons ?_ (by decide)
      refine SV.callM rfl rfl (cmpE_sp hX hM1 (hok y (List.mem_append_right _ (List.mem_of_getElem? hy))) (hok x (by simp))) ?_
      rintro r s2 H2 hn2 hM2 ⟨rfl, rfl⟩
      refine WD.cons (SV.lss rfl rfl ?_) (by decide)
      refine WD.nil ?_
      refine WC.condD rfl (fun hc hcb => ?_) (fun hc hcb => ?_)
      · skip
        refine WC.region ?_
        refine WO.cons (SV.moveV (by constructor) ?_) (by decide)
        refine WO.cons (SV.add64 rfl rfl (by omega) ?_) (by decide)
        refine WO.cons (SV.assignV (by constructor) ?_) (by decide)
        refine WO.nil ?_
        exact ⟨rfl, (h + 1, j), ⟨rfl, rfl, rfl, rfl, rfl, trivial⟩, ⟨by omega, hM2, by dsimp only; omega, by dsimp only; omega, f3, fun _ z hz => by
          dsimp only at hz; rw [show h + 1 - 1 - m = h - m by omega, hy] at hz; cases hz; omega, f5⟩, by dsimp only; omega⟩
      · skip
        refine WC.region ?_
        refine WO.cons (SV.moveV (by constructor) ?_) (by decide)
        refine WO.cons (SV.assignV (by constructor) ?_) (by decide)
        refine WO.nil ?_
        exact ⟨rfl, (i, h), ⟨rfl, rfl, rfl, rfl, rfl, trivial⟩, ⟨by omega, hM2, f1, by dsimp only; omega, by dsimp only; omega, f4, fun _ z hz => by
          dsimp only at hz; rw [hy] at hz; cases hz; omega⟩, by dsimp only; omega⟩
    · obtain rfl : i = j := by omega
      obtain ⟨Y1, Y2, rfl, hY1⟩ := cut_at Y0 (n := (i - m).toNat) (by omega)
      have g1 : ∀ l, Y1.getLast? = some l → l.y0 ≤ x.y0 := fun l hl => by
        have := pos_of_last hl
        exact f4 (by omega) l (last_at hl (by omega))
      have g2 : ∀ l, Y2.head? = some l → x.y0 ≤ l.y0 := fun l hl => by
        have := pos_of_head hl
        exact f5 (by rw [List.length_append] at hb; omega) l (head_at hl (by omega))
      simp only [List.length_append] at hb hn0
      refine WC.exit (WC.seq (WC.seq ?_))
      refine WC.region ?_
      refine WO.cons (SV.moveV (by constructor) ?_) (by decide)
      refine WO.cons (SV.assignV (by constructor) ?_) (by decide)
      refine WO.nil ?_
      refine WC.block ?_
      refine WC.loop (D := List Ed × List Ed) (fun q => [(0, v), (10, .int .i64 i), (13, .int .i64 (a + q.1.length))])
        (fun q s2 => s.next ≤ s2.next ∧ ∃ H2, Models ro s2 H2 ∧ SlO H2 v 5 n ((A ++ (q.1 ++ (x :: (q.2 ++ (Y2 ++ B))))).flatMap encE) ∧ KeptBut H H2 v ∧ q.1 ++ q.2 = Y1)
        (fun q => q.2.length) ([], Y1) ?_ ⟨hn1, H, hM1, by simpa using hv, KeptBut.refl', rfl⟩ ?_
      · exact ⟨rfl, rfl, by show some (Value.int .i64 a) = some (Value.int .i64 (a + (0 : Nat))); simp, trivial⟩
      rintro ⟨P, R⟩ g s2 ⟨hn2, H2, hM2, hv2, hk2, e1⟩
      dsimp only at hv2 e1 ⊢
      subst e1
      simp only [List.length_append] at hY1 hb hn0
      have hlen : (A ++ (P ++ (x :: (R ++ (Y2 ++ B))))).length = n := by simp only [List.length_append, List.length_cons]; omega
      obtain ⟨k, hk⟩ : ∃ k, k = a + (P.length : Int) := ⟨_, rfl⟩
      rw [← hk]
      refine WC.seq (WC.seq ?_)
      refine WC.region ?_
      refine WO.cons (SV.moveV (by constructor) ?_) (by decide)
      refine WO.cons (SV.moveV (by constructor) ?_) (by decide)
      refine WO.cons (SV.sub64 rfl rfl (by omega) ?_) (by decide)
      refine WO.cons (SV.lss rfl rfl ?_) (by decide)
      refine WO.nil ?_
      refine WC.condD rfl (fun hlt2 hlt2b => ?_) (fun hlt2 hlt2b => ?_)
      · cases R with
        | nil => simp at hY1; omega
        | cons r R =>
          simp only [List.length_cons] at hY1 hb hn0
          obtain ⟨ν, cp, rfl⟩ := hv2.nonnil (by omega)
          have hjx : (A ++ (P ++ (x :: (r :: R ++ (Y2 ++ B)))))[A.length + P.length]? = some x := by
            rw [← List.append_assoc]; exact get_mid (by simp)
          have hjr : (A ++ (P ++ (x :: (r :: R ++ (Y2 ++ B)))))[A.length + P.length + 1]? = some r := by
            rw [show A ++ (P ++ (x :: (r :: R ++ (Y2 ++ B)))) = (A ++ (P ++ [x])) ++ r :: (R ++ (Y2 ++ B)) by simp]; exact get_mid (by simp; omega)
          refine WC.skip (WC.seq (WC.block ?_))
          refine WC.draw [0, 1, 2, 3, 4, 5, 6, 7, 8, 9, 10, 11, 12, 13, 14, 15, 16, 17] (by kernel_rfl) (by kernel_rfl) (by kernel_rfl) ?_
          refine WD.cons (SV.moveV (by constructor) ?_) (by decide)
          refine WD.cons (SV.moveV (by constructor) ?_) (by decide)
          refine WD.cons (SV.moveV (by constructor) ?_) (by decide)
          refine WD.cons (SV.moveV (by constructor) ?_) (by decide)
          refine WD.cons (SV.add64 rfl rfl (by omega) ?_) (by decide)
          refine WD.cons (SV.moveV (by constructor) ?_) (by decide)
          refine WD.cons (SV.moveV (by constructor) ?_) (by decide)
          refine WD.cons (SV.add64 rfl rfl (by omega) ?_) (by decide)
          refine WD.cons (SV.indexAddr rfl rfl (by omega) ?_) (by decide)
          refine WD.cons ?_ (by decide)
          refine SV.loadSl hM2 rfl hv2 encE_len hlen hjr (by omega) ?_
          refine WD.cons (SV.moveV (by constructor) ?_) (by decide)
          refine WD.cons (SV.moveV (by constructor) ?_) (by decide)
          refine WD.cons (SV.indexAddr rfl rfl (by omega) ?_) (by decide)
          refine WD.cons ?_ (by decide)
          refine SV.loadSl hM2 rfl hv2 encE_len hlen hjx (by omega) ?_
          refine WD.cons (SV.indexAddr rfl rfl (by omega) ?_) (by decide)
          refine WD.cons0 ?_
          refine SV.storeSl (b := r) TAgg.sz hM2 rfl hv2 encE_len hlen hjx (by omega) rfl rfl (fun s4 H4 hn4 hM4 hv4 hk4 => ?_)
          refine WD.cons (SV.indexAddr rfl rfl (by omega) ?_) (by decide)
          refine WD.cons0 ?_
          refine SV.storeSl (b := x) (a := r) (L := (A ++ (P ++ (x :: (r :: R ++ (Y2 ++ B))))).set (A.length + P.length) r) (j := A.length + P.length + 1) TAgg.sz hM4 rfl hv4 encE_len (by rw [List.length_set]; exact hlen) (by rw [List.getElem?_set_ne (by omega)]; exact hjr) (by omega) rfl rfl (fun s5 H5 hn5 hM5 hv5 hk5 => ?_)
          refine WD.nil ?_
          have e : ((A ++ (P ++ (x :: (r :: R ++ (Y2 ++ B))))).set (A.length + P.length) r).set (A.length + P.length + 1) x = A ++ ((P ++ [r]) ++ (x :: (R ++ (Y2 ++ B)))) := by
            rw [show A ++ (P ++ (x :: (r :: R ++ (Y2 ++ B)))) = (A ++ P) ++ x :: r :: (R ++ (Y2 ++ B)) by simp, swap_next (by simp)]; simp
          rw [e] at hv5
          refine WC.region ?_
          refine WO.cons (SV.moveV (by constructor) ?_) (by decide)
          refine WO.cons (SV.add64 rfl rfl (by omega) ?_) (by decide)
          refine WO.cons (SV.assignV (by constructor) ?_) (by decide)
          refine WO.nil ?_
          refine ⟨rfl, (P ++ [r], R), ⟨rfl, rfl, ?_, trivial⟩, ⟨by omega, H5, hM5, hv5, (hk2.trans' hk4).trans' hk5, by simp⟩, by simp⟩
          show some (Value.int .i64 (k + 1)) = some (Value.int .i64 (a + ((P ++ [r]).length : Int)))
          congr 2; simp; omega
      · obtain rfl : R = [] := List.length_eq_zero_iff.mp (by omega)
        refine WC.exit ?_
        refine WC.ret ?_
        refine fin_none (e := .ret) rfl trivial hn2 hM2 ⟨rfl, P ++ x :: Y2, ?_, hk2, ?_, ?_⟩
        · rw [List.append_nil] at *
          simpa using hv2
        · simp
        · rw [List.append_nil] at *
          exact sY.ins g1 g2
  refine WC.skip (WC.seq (WC.seq ?_))
  refine WC.region ?_
  refine WO.cons (SV.moveV (by constructor) ?_) (by decide)
  refine WO.cons (SV.moveV (by constructor) ?_) (by decide)
  refine WO.cons (SV.sub64 rfl rfl (by omega) ?_) (by decide)
  refine WO.cons (SV.eqlI rfl rfl ?_) (by decide)
  refine WO.nil ?_
  refine WC.condD rfl (fun h2 h2b => ?_) (fun h2 h2b => ?_)
  · obtain ⟨y, rfl⟩ : ∃ y, Y0 = [y] := List.length_eq_one_iff.mp (by omega)
    simp only [List.length_singleton] at hb hn0
    refine WC.seq ?_
    refine WC.region ?_
    refine WO.cons (SV.moveV (by constructor) ?_) (by decide)
    refine WO.cons (SV.assignV (by constructor) ?_) (by decide)
    refine WO.nil ?_
    refine WC.seq ?_
    refine WC.region ?_
    refine WO.cons (SV.moveV (by constructor) ?_) (by decide)
    refine WO.cons (SV.assignV (by constructor) ?_) (by decide)
    refine WO.nil ?_
    refine WC.seq (WC.block ?_)
    refine WC.loop (D := Int × Int) (fun q => [(0, v), (2, .int .i64 m), (4, cmpV), (14, .int .i64 q.1), (15, .int .i64 q.2)])
      (fun q s1 => s.next ≤ s1.next ∧ Models ro s1 H ∧ a ≤ q.1 ∧ q.1 ≤ q.2 ∧ q.2 ≤ m ∧ (a < q.1 → ∀ u, X0[(q.1 - 1 - a).toNat]? = some u → u.y0 ≤ y.y0) ∧ (q.2 < m → ∀ u, X0[(q.2 - a).toNat]? = some u → y.y0 ≤ u.y0))
      (fun q => (q.2 - q.1).toNat) (a, m) ?_ ⟨by omega, hM, by dsimp only; omega, by dsimp only; omega, by dsimp only; omega, fun h => by dsimp only at h; omega, fun h => by dsimp only at h; omega⟩ ?_
    · exact ⟨rfl, rfl, rfl, rfl, rfl, trivial⟩
    rintro ⟨i, j⟩ g s1 ⟨hn1, hM1, f1, f2, f3, f4, f5⟩
    dsimp only at f1 f2 f3 f4 f5 ⊢
    refine WC.seq (WC.seq ?_)
    refine WC.region ?_
    refine WO.cons (SV.moveV (by constructor) ?_) (by decide)
    refine WO.cons (SV.moveV (by constructor) ?_) (by decide)
    refine WO.cons (SV.lss rfl rfl ?_) (by decide)
    refine WO.nil ?_
    refine WC.condD rfl (fun hlt hltb => ?_) (fun hlt hltb => ?_)
    · refine WC.skip (WC.block (WC.seq ?_))
      refine WC.region ?_
      refine WO.cons (SV.moveV (by constructor) ?_) (by decide)
      refine WO.cons (SV.moveV (by constructor) ?_) (by decide)
      refine WO.cons (SV.add64 rfl rfl (by omega) ?_) (by decide)
      refine WO.cons (SV.convU Try.underlying3 Try.underlying73 rfl (by omega) ?_) (by decide)
      refine WO.cons (SV.shr1 rfl rfl ?_) (by decide)
      refine WO.cons (SV.conv64 Try.underlying73 Try.underlying3 rfl (by omega) ?_) (by decide)
      refine WO.cons (SV.assignV (by constructor) ?_) (by decide)
      refine WO.nil ?_
      obtain ⟨h, hh⟩ : ∃ h, h = (i + j) / 2 := ⟨_, rfl⟩
      rw [← hh]
      obtain ⟨u, hu⟩ : ∃ u, X0[(h - a).toNat]? = some u := ⟨_, List.getElem?_eq_getElem (by omega)⟩
      have hju : (A ++ (X0 ++ ([y] ++ B)))[h.toNat]? = some u := get_in hu (by omega)
      have hjy : (A ++ (X0 ++ ([y] ++ B)))[A.length + X0.length]? = some y := by rw [← List.append_assoc]; exact get_mid (by simp)
      obtain ⟨ν, cp, rfl⟩ := hv.nonnil (by omega)
      refine WC.seq ?_
      refine WC.draw [0, 1, 2, 3, 4, 5, 6, 7, 8, 9, 10, 11] (by kernel_rfl) (by kernel_rfl) (by kernel_rfl) ?_
      refine WD.cons (SV.moveV (by constructor) ?_) (by decide)
      refine WD.cons (SV.moveV (by constructor) ?_) (by decide)
      refine WD.cons (SV.moveV (by constructor) ?_) (by decide)
      refine WD.cons (SV.indexAddr rfl rfl (by omega) ?_) (by decide)
      refine WD.cons ?_ (by decide)
      refine SV.loadSl hM1 rfl hv encE_len hn hjy (by omega) ?_
      refine WD.cons (SV.moveV (by constructor) ?_) (by decide)
      refine WD.cons (SV.moveV (by constructor) ?_) (by decide)
      refine WD.cons (SV.indexAddr rfl rfl (by omega) ?_) (by decide)
      refine WD.cons ?_ (by decide)
      refine SV.loadSl hM1 rfl hv encE_len hn hju (by omega) ?_
      refine WD.cons ?_ (by decide)
      refine SV.callM rfl rfl (cmpE_sp hX hM1 (hok y (by simp)) (hok u (List.mem_append_left _ (List.mem_of_getElem? hu)))) ?_
      rintro r s2 H2 hn2 hM2 ⟨rfl, rfl⟩
      refine WD.cons (SV.lss rfl rfl ?_) (by decide)
      refine WD.cons (SV.notD rfl ?_) (by decide)
      refine WD.nil ?_
      refine WC.condD rfl (fun hc hcb => ?_) (fun hc hcb => ?_)
      · skip
        refine WC.region ?_
        refine WO.cons (SV.moveV (by constructor) ?_) (by decide)
        refine WO.cons (SV.add64 rfl rfl (by omega) ?_) (by decide)
        refine WO.cons (SV.assignV (by constructor) ?_) (by decide)
        refine WO.nil ?_
        exact ⟨rfl, (h + 1, j), ⟨rfl, rfl, rfl, rfl, rfl, trivial⟩, ⟨by omega, hM2, by dsimp only; omega, by dsimp only; omega, f3, fun _ z hz => by
          dsimp only at hz; rw [show h + 1 - 1 - a = h - a by omega, hu] at hz; cases hz; omega, f5⟩, by dsimp only; omega⟩
      · skip
        refine WC.region ?_
        refine WO.cons (SV.moveV (by constructor) ?_) (by decide)
        refine WO.cons (SV.assignV (by constructor) ?_) (by decide)
        refine WO.nil ?_
        exact ⟨rfl, (i, h), ⟨rfl, rfl, rfl, rfl, rfl, trivial⟩, ⟨by omega, hM2, f1, by dsimp only; omega, by dsimp only; omega, f4, fun _ z hz => by
          dsimp only at hz; rw [hu] at hz; cases hz; omega⟩, by dsimp only; omega⟩
    · obtain rfl : i = j := by omega
      obtain ⟨X1, X2, rfl, hX1⟩ := cut_at X0 (n := (i - a).toNat) (by omega)
      have g1 : ∀ l, X1.getLast? = some l → l.y0 ≤ y.y0 := fun l hl => by
        have := pos_of_last hl
        exact f4 (by omega) l (last_at hl (by omega))
      have g2 : ∀ l, X2.head? = some l → y.y0 ≤ l.y0 := fun l hl => by
        have := pos_of_head hl
        exact f5 (by rw [List.length_append] at hm; omega) l (head_at hl (by omega))
      simp only [List.length_append] at hm hb hn0
      refine WC.exit (WC.seq (WC.seq ?_))
      refine WC.region ?_
      refine WO.cons (SV.moveV (by constructor) ?_) (by decide)
      refine WO.cons (SV.assignV (by constructor) ?_) (by decide)
      refine WO.nil ?_
      refine WC.block ?_
      refine WC.loop (D := List Ed × List Ed) (fun q => [(0, v), (14, .int .i64 i), (17, .int .i64 (i + q.1.length))])
        (fun q s2 => s.next ≤ s2.next ∧ ∃ H2, Models ro s2 H2 ∧ SlO H2 v 5 n ((A ++ (X1 ++ (q.1 ++ (y :: (q.2 ++ B))))).flatMap encE) ∧ KeptBut H H2 v ∧ q.1 ++ q.2 = X2)
        (fun q => q.1.length) (X2, []) ?_ ⟨hn1, H, hM1, by simpa using hv, KeptBut.refl', List.append_nil _⟩ ?_
      · exact ⟨rfl, rfl, by show some (Value.int .i64 m) = some (Value.int .i64 (i + (X2.length : Int))); congr 2; omega, trivial⟩
      rintro ⟨P, R⟩ g s2 ⟨hn2, H2, hM2, hv2, hk2, e1⟩
      dsimp only at hv2 e1 ⊢
      subst e1
      simp only [List.length_append] at hm hb hn0
      have hlen : (A ++ (X1 ++ (P ++ (y :: (R ++ B))))).length = n := by simp only [List.length_append, List.length_cons]; omega
      obtain ⟨k, hk⟩ : ∃ k, k = i + (P.length : Int) := ⟨_, rfl⟩
      rw [← hk]
      refine WC.seq (WC.seq ?_)
      refine WC.region ?_
      refine WO.cons (SV.moveV (by constructor) ?_) (by decide)
      refine WO.cons (SV.moveV (by constructor) ?_) (by decide)
      refine WO.cons (SV.gtr rfl rfl ?_) (by decide)
      refine WO.nil ?_
      refine WC.condD rfl (fun hlt2 hlt2b => ?_) (fun hlt2 hlt2b => ?_)
      · rcases List.eq_nil_or_concat P with rfl | ⟨Q, r, rfl⟩
        · simp at hk; omega
        · simp only [List.concat_eq_append] at *
          simp only [List.length_append, List.length_singleton] at hk hm hb hn0
          obtain ⟨ν, cp, rfl⟩ := hv2.nonnil (by omega)
          have hjr : (A ++ (X1 ++ (Q ++ [r] ++ (y :: (R ++ B)))))[A.length + X1.length + Q.length]? = some r := by
            rw [show A ++ (X1 ++ (Q ++ [r] ++ (y :: (R ++ B)))) = (A ++ (X1 ++ Q)) ++ r :: (y :: (R ++ B)) by simp]; exact get_mid (by simp; omega)
          have hjy : (A ++ (X1 ++ (Q ++ [r] ++ (y :: (R ++ B)))))[A.length + X1.length + Q.length + 1]? = some y := by
            rw [show A ++ (X1 ++ (Q ++ [r] ++ (y :: (R ++ B)))) = (A ++ (X1 ++ (Q ++ [r]))) ++ y :: (R ++ B) by simp]; exact get_mid (by simp; omega)
          refine WC.skip (WC.seq (WC.block ?_))
          refine WC.draw [0, 1, 2, 3, 4, 5, 6, 7, 8, 9, 10, 11, 12, 13, 14, 15, 16, 17] (by kernel_rfl) (by kernel_rfl) (by kernel_rfl) ?_
          refine WD.cons (SV.moveV (by constructor) ?_) (by decide)
          refine WD.cons (SV.moveV (by constructor) ?_) (by decide)
          refine WD.cons (SV.moveV (by constructor) ?_) (by decide)
          refine WD.cons (SV.moveV (by constructor) ?_) (by decide)
          refine WD.cons (SV.sub64 rfl rfl (by omega) ?_) (by decide)
          refine WD.cons (SV.moveV (by constructor) ?_) (by decide)
          refine WD.cons (SV.moveV (by constructor) ?_) (by decide)
          refine WD.cons (SV.sub64 rfl rfl (by omega) ?_) (by decide)
          refine WD.cons (SV.indexAddr rfl rfl (by omega) ?_) (by decide)
          refine WD.cons ?_ (by decide)
          refine SV.loadSl hM2 rfl hv2 encE_len hlen hjr (by omega) ?_
          refine WD.cons (SV.moveV (by constructor) ?_) (by decide)
          refine WD.cons (SV.moveV (by constructor) ?_) (by decide)
          refine WD.cons (SV.indexAddr rfl rfl (by omega) ?_) (by decide)
          refine WD.cons ?_ (by decide)
          refine SV.loadSl hM2 rfl hv2 encE_len hlen hjy (by omega) ?_
          refine WD.cons (SV.indexAddr rfl rfl (by omega) ?_) (by decide)
          refine WD.cons0 ?_
          refine SV.storeSl (b := r) TAgg.sz hM2 rfl hv2 encE_len hlen hjy (by omega) rfl rfl (fun s4 H4 hn4 hM4 hv4 hk4 => ?_)
          refine WD.cons (SV.indexAddr rfl rfl (by omega) ?_) (by decide)
          refine WD.cons0 ?_
          refine SV.storeSl (b := y) (a := r) (L := (A ++ (X1 ++ (Q ++ [r] ++ (y :: (R ++ B))))).set (A.length + X1.length + Q.length + 1) r) (j := A.length + X1.length + Q.length) TAgg.sz hM4 rfl hv4 encE_len (by rw [List.length_set]; exact hlen) (by rw [List.getElem?_set_ne (by omega)]; exact hjr) (by omega) rfl rfl (fun s5 H5 hn5 hM5 hv5 hk5 => ?_)
          refine WD.nil ?_
          have e : ((A ++ (X1 ++ (Q ++ [r] ++ (y :: (R ++ B))))).set (A.length + X1.length + Q.length + 1) r).set (A.length + X1.length + Q.length) y = A ++ (X1 ++ (Q ++ (y :: (r :: R ++ B)))) := by
            rw [show A ++ (X1 ++ (Q ++ [r] ++ (y :: (R ++ B)))) = (A ++ (X1 ++ Q)) ++ r :: y :: (R ++ B) by simp, swap_next' (by simp; omega)]; simp
          rw [e] at hv5
          refine WC.region ?_
          refine WO.cons (SV.moveV (by constructor) ?_) (by decide)
          refine WO.cons (SV.sub64 rfl rfl (by omega) ?_) (by decide)
          refine WO.cons (SV.assignV (by constructor) ?_) (by decide)
          refine WO.nil ?_
          refine ⟨rfl, (Q, r :: R), ⟨rfl, rfl, ?_, trivial⟩, ⟨by omega, H5, hM5, hv5, (hk2.trans' hk4).trans' hk5, by simp⟩, by simp⟩
          show some (Value.int .i64 (k - 1)) = some (Value.int .i64 (i + (Q.length : Int)))
          congr 2; omega
      · obtain rfl : P = [] := List.length_eq_zero_iff.mp (by omega)
        refine WC.exit ?_
        refine WC.ret ?_
        refine fin_none (e := .ret) rfl trivial hn2 hM2 ⟨rfl, X1 ++ y :: R, ?_, hk2, ?_, ?_⟩
        · simpa using hv2
        · simpa using (List.perm_append_comm (l₁ := [y]) (l₂ := R)).append_left X1
        · exact sX.ins g1 g2
  refine WC.skip (WC.seq ?_)
  refine WC.region ?_
  refine WO.cons (SV.moveV (by constructor) ?_) (by decide)
  refine WO.cons (SV.moveV (by constructor) ?_) (by decide)
  refine WO.cons (SV.add64 rfl rfl (by omega) ?_) (by decide)
  refine WO.cons (SV.convU Try.underlying3 Try.underlying73 rfl (by omega) ?_) (by decide)
  refine WO.cons (SV.shr1 rfl rfl ?_) (by decide)
  refine WO.cons (SV.conv64 Try.underlying73 Try.underlying3 rfl (by omega) ?_) (by decide)
  refine WO.cons (SV.assignV (by constructor) ?_) (by decide)
  refine WO.nil ?_
  obtain ⟨mid, hmid⟩ : ∃ mid, mid = (a + b) / 2 := ⟨_, rfl⟩
  rw [← hmid]
  refine WC.seq ?_
  refine WC.region ?_
  refine WO.cons (SV.moveV (by constructor) ?_) (by decide)
  refine WO.cons (SV.moveV (by constructor) ?_) (by decide)
  refine WO.cons (SV.add64 rfl rfl (by omega) ?_) (by decide)
  refine WO.cons (SV.assignV (by constructor) ?_) (by decide)
  refine WO.nil ?_
  refine WC.seq ?_
  refine WC.region ?_
  refine WO.cons (SV.assignV (by constructor) ?_) (by decide)
  refine WO.cons (SV.assignV (by constructor) ?_) (by decide)
  refine WO.nil ?_
  refine WC.seq (WC.seq ?_)
  refine WC.region ?_
  refine WO.cons (SV.moveV (by constructor) ?_) (by decide)
  refine WO.cons (SV.moveV (by constructor) ?_) (by decide)
  refine WO.cons (SV.gtr rfl rfl ?_) (by decide)
  refine WO.nil ?_
  refine thn_n ?_
  obtain ⟨lo, hi, hlh⟩ : ∃ lo hi : Int, (mid < m ∧ lo = mid + m - b ∧ hi = mid) ∨ (¬ mid < m ∧ lo = a ∧ hi = m) := by
    by_cases h : mid < m
    · exact ⟨_, _, .inl ⟨h, rfl, rfl⟩⟩
    · exact ⟨_, _, .inr ⟨h, rfl, rfl⟩⟩
  refine WC.mono (Q := fun e g' ds' s' => e = .normal ∧ ds' = [] ∧ holds g' [(0, v), (1, .int .i64 a), (2, .int .i64 m), (3, .int .i64 b), (4, cmpV), (18, .int .i64 mid), (19, .int .i64 (mid + m)), (20, .int .i64 lo), (21, .int .i64 hi)] ∧ s' = s) ?_ ?_
  · rcases hlh with ⟨h, e1, e2⟩ | ⟨h, e1, e2⟩ <;> rw [e1, e2]
    · have hd : decide (mid < m) = true := decide_eq_true h
      refine WC.condT rfl (by assumption) (WC.seq ?_)
      refine WC.region ?_
      refine WO.cons (SV.moveV (by constructor) ?_) (by decide)
      refine WO.cons (SV.moveV (by constructor) ?_) (by decide)
      refine WO.cons (SV.sub64 rfl rfl (by omega) ?_) (by decide)
      refine WO.cons (SV.assignV (by constructor) ?_) (by decide)
      refine WO.nil ?_
      refine thn_n ?_
      refine WC.region ?_
      refine WO.cons (SV.moveV (by constructor) ?_) (by decide)
      refine WO.cons (SV.assignV (by constructor) ?_) (by decide)
      refine WO.nil ?_
      exact ⟨rfl, rfl, ⟨rfl, rfl, rfl, rfl, rfl, rfl, rfl, rfl, rfl, trivial⟩, rfl⟩
    · have hd : decide (mid < m) = false := decide_eq_false h
      refine WC.condF rfl (by assumption) (WC.seq ?_)
      refine WC.region ?_
      refine WO.cons (SV.moveV (by constructor) ?_) (by decide)
      refine WO.cons (SV.assignV (by constructor) ?_) (by decide)
      refine WO.nil ?_
      refine thn_n ?_
      refine WC.region ?_
      refine WO.cons (SV.moveV (by constructor) ?_) (by decide)
      refine WO.cons (SV.assignV (by constructor) ?_) (by decide)
      refine WO.nil ?_
      exact ⟨rfl, rfl, ⟨rfl, rfl, rfl, rfl, rfl, rfl, rfl, rfl, rfl, trivial⟩, rfl⟩
  rintro e g2 ds2 s2 ⟨rfl, rfl, hg2, rfl⟩
  rw [← over_same hg2]
  refine thn_n ?_
  refine WC.seq ?_
  refine WC.region ?_
  refine WO.cons (SV.moveV (by constructor) ?_) (by decide)
  refine WO.cons (SV.sub64 rfl rfl (by omega) ?_) (by decide)
  refine WO.cons (SV.assignV (by constructor) ?_) (by decide)
  refine WO.nil ?_
  refine thn_n ?_
  refine WC.seq (WC.block ?_)
  refine WC.loop (D := Int × Int) (fun q => [(0, v), (1, .int .i64 a), (2, .int .i64 m), (3, .int .i64 b), (4, cmpV), (18, .int .i64 mid), (19, .int .i64 (mid + m)), (20, .int .i64 q.1), (21, .int .i64 q.2), (22, .int .i64 (mid + m - 1))])
    (fun q s1 => s2.next ≤ s1.next ∧ Models ro s1 H ∧ lo ≤ q.1 ∧ q.1 ≤ q.2 ∧ q.2 ≤ hi ∧ (lo < q.1 → ∀ u w, X0[(q.1 - 1 - a).toNat]? = some u → Y0[(mid - q.1).toNat]? = some w → u.y0 ≤ w.y0) ∧ (q.2 < hi → ∀ u w, X0[(q.2 - a).toNat]? = some u → Y0[(mid - 1 - q.2).toNat]? = some w → w.y0 ≤ u.y0))
    (fun q => (q.2 - q.1).toNat) (lo, hi) ?_ ⟨by omega, hM, by dsimp only; omega, by dsimp only; omega, by dsimp only; omega, fun h => by dsimp only at h; omega, fun h => by dsimp only at h; omega⟩ ?_
  · exact ⟨rfl, rfl, rfl, rfl, rfl, rfl, rfl, rfl, rfl, rfl, trivial⟩
  rintro ⟨st, r⟩ g s1 ⟨hn1, hM1, f1, f2, f3, f4, f5⟩
  dsimp only at f1 f2 f3 f4 f5 ⊢
  refine WC.seq (WC.seq ?_)
  refine WC.region ?_
  refine WO.cons (SV.moveV (by constructor) ?_) (by decide)
  refine WO.cons (SV.moveV (by constructor) ?_) (by decide)
  refine WO.cons (SV.lss rfl rfl ?_) (by decide)
  refine WO.nil ?_
  refine WC.condD rfl (fun hlt hltb => ?_) (fun hlt hltb => ?_)
  · refine WC.skip (WC.block (WC.seq ?_))
    refine WC.region ?_
    refine WO.cons (SV.moveV (by constructor) ?_) (by decide)
    refine WO.cons (SV.moveV (by constructor) ?_) (by decide)
    refine WO.cons (SV.add64 rfl rfl (by omega) ?_) (by decide)
    refine WO.cons (SV.convU Try.underlying3 Try.underlying73 rfl (by omega) ?_) (by decide)
    refine WO.cons (SV.shr1 rfl rfl ?_) (by decide)
    refine WO.cons (SV.conv64 Try.underlying73 Try.underlying3 rfl (by omega) ?_) (by decide)
    refine WO.cons (SV.assignV (by constructor) ?_) (by decide)
    refine WO.nil ?_
    obtain ⟨c, hc⟩ : ∃ c, c = (st + r) / 2 := ⟨_, rfl⟩
    rw [← hc]
    have hcb : st ≤ c ∧ c < r := by omega
    have hcx : a ≤ c ∧ c < m ∧ m ≤ mid + m - 1 - c ∧ mid + m - 1 - c < b := by omega
    obtain ⟨u, hu⟩ : ∃ u, X0[(c - a).toNat]? = some u := ⟨_, List.getElem?_eq_getElem (by omega)⟩
    obtain ⟨w, hw⟩ : ∃ u, Y0[(mid - 1 - c).toNat]? = some u := ⟨_, List.getElem?_eq_getElem (by omega)⟩
    have hju : (A ++ (X0 ++ (Y0 ++ B)))[c.toNat]? = some u := get_in hu (by omega)
    have hjw : (A ++ (X0 ++ (Y0 ++ B)))[(mid + m - 1 - c).toNat]? = some w := by rw [← List.append_assoc]; exact get_in hw (by simp; omega)
    obtain ⟨ν, cp, rfl⟩ := hv.nonnil (by omega)
    refine WC.seq ?_
    refine WC.draw [0, 1, 2, 3, 4, 5, 6, 7, 8, 9, 10, 11, 12, 13] (by kernel_rfl) (by kernel_rfl) (by kernel_rfl) ?_
    refine WD.cons (SV.moveV (by constructor) ?_) (by decide)
    refine WD.cons (SV.moveV (by constructor) ?_) (by decide)
    refine WD.cons (SV.moveV (by constructor) ?_) (by decide)
    refine WD.cons (SV.moveV (by constructor) ?_) (by decide)
    refine WD.cons (SV.sub64 rfl rfl (by omega) ?_) (by decide)
    refine WD.cons (SV.indexAddr rfl rfl (by omega) ?_) (by decide)
    refine WD.cons ?_ (by decide)
    refine SV.loadSl hM1 rfl hv encE_len hn hjw (by omega) ?_
    refine WD.cons (SV.moveV (by constructor) ?_) (by decide)
    refine WD.cons (SV.moveV (by constructor) ?_) (by decide)
    refine WD.cons (SV.indexAddr rfl rfl (by omega) ?_) (by decide)
    refine WD.cons ?_ (by decide)
    refine SV.loadSl hM1 rfl hv encE_len hn hju (by omega) ?_
    refine WD.cons ?_ (by decide)
    refine SV.callM rfl rfl (cmpE_sp hX hM1 (hok w (List.mem_append_right _ (List.mem_of_getElem? hw))) (hok u (List.mem_append_left _ (List.mem_of_getElem? hu)))) ?_
    rintro r2 s3 H2 hn2 hM2 ⟨rfl, rfl⟩
    refine WD.cons (SV.lss rfl rfl ?_) (by decide)
    refine WD.cons (SV.notD rfl ?_) (by decide)
    refine WD.nil ?_
    refine WC.condD rfl (fun hc2 hc2b => ?_) (fun hc2 hc2b => ?_)
    · skip
      refine WC.region ?_
      refine WO.cons (SV.moveV (by constructor) ?_) (by decide)
      refine WO.cons (SV.add64 rfl rfl (by omega) ?_) (by decide)
      refine WO.cons (SV.assignV (by constructor) ?_) (by decide)
      refine WO.nil ?_
      exact ⟨rfl, (c + 1, r), ⟨rfl, rfl, rfl, rfl, rfl, rfl, rfl, rfl, rfl, rfl, trivial⟩, ⟨by omega, hM2, by dsimp only; omega, by dsimp only; omega, f3, fun _ u' w' hu' hw' => by
        dsimp only at hu' hw'
        rw [show c + 1 - 1 - a = c - a by omega, hu] at hu'
        rw [show mid - (c + 1) = mid - 1 - c by omega, hw] at hw'
        cases hu'; cases hw'; omega, f5⟩, by dsimp only; omega⟩
    · skip
      refine WC.region ?_
      refine WO.cons (SV.moveV (by constructor) ?_) (by decide)
      refine WO.cons (SV.assignV (by constructor) ?_) (by decide)
      refine WO.nil ?_
      exact ⟨rfl, (st, c), ⟨rfl, rfl, rfl, rfl, rfl, rfl, rfl, rfl, rfl, rfl, trivial⟩, ⟨by omega, hM2, f1, by dsimp only; omega, by dsimp only; omega, f4, fun _ u' w' hu' hw' => by
        dsimp only at hu' hw'
        rw [hu] at hu'
        rw [hw] at hw'
        cases hu'; cases hw'; omega⟩, by dsimp only; omega⟩
  · obtain rfl : st = r := by omega
    have hst : a ≤ st ∧ st ≤ m ∧ m ≤ mid + m - st ∧ mid + m - st ≤ b := by omega
    obtain ⟨X1, X2, rfl, hX1⟩ := cut_at X0 (n := (st - a).toNat) (by omega)
    obtain ⟨Y1, Y2, rfl, hY1⟩ := cut_at Y0 (n := (mid - st).toNat) (by omega)
    simp only [List.length_append] at hm hb hn0 hN hx0 hy0
    have g1 : ∀ x y, X1.getLast? = some x → Y2.head? = some y → x.y0 ≤ y.y0 := fun x y hx hy => by
      have p1 := pos_of_last hx
      have p2 := pos_of_head hy
      exact f4 (by omega) x y (last_at hx (by omega)) (head_at hy (by omega))
    have g2 : ∀ y x, Y1.getLast? = some y → X2.head? = some x → y.y0 ≤ x.y0 := fun y x hy hx => by
      have p1 := pos_of_last hy
      have p2 := pos_of_head hx
      exact f5 (by omega) x y (head_at hx (by omega)) (last_at hy (by omega))
    have okp : ∀ e ∈ X1 ++ Y1, e.Ok := fun e he => hok e (by rcases List.mem_append.mp he with h | h <;> simp [h])
    have okq : ∀ e ∈ X2 ++ Y2, e.Ok := fun e he => hok e (by rcases List.mem_append.mp he with h | h <;> simp [h])
    obtain ⟨sX1, sX2, _⟩ := Srt.app.mp sX
    obtain ⟨sY1, sY2, _⟩ := Srt.app.mp sY
    have hv' : SlO H v 5 n ((A ++ (X1 ++ (X2 ++ (Y1 ++ (Y2 ++ B))))).flatMap encE) := by simpa only [List.append_assoc] using hv
    have hlen : (A ++ (X1 ++ (X2 ++ (Y1 ++ (Y2 ++ B))))).length = n := by simp only [List.length_append]; omega
    refine WC.exit (WC.seq ?_)
    refine WC.region ?_
    refine WO.cons (SV.moveV (by constructor) ?_) (by decide)
    refine WO.cons (SV.moveV (by constructor) ?_) (by decide)
    refine WO.cons (SV.sub64 rfl rfl (by omega) ?_) (by decide)
    refine WO.cons (SV.assignV (by constructor) ?_) (by decide)
    refine WO.nil ?_
    obtain ⟨en, hen⟩ : ∃ en, en = mid + m - st := ⟨_, rfl⟩
    rw [← hen]
    refine thn_n ?_
    refine WC.seq (WC.seq ?_)
    refine WC.mono (Q := fun e g' ds' s' => e = .normal ∧ ds' = [] ∧ holds g' [(0, v), (1, .int .i64 a), (2, .int .i64 m), (3, .int .i64 b), (4, cmpV), (18, .int .i64 mid), (20, .int .i64 st), (24, .int .i64 en), (185, .bool (decide (st < m ∧ m < en)))] ∧ s' = s1) ?_ ?_
    · by_cases c1 : st < m
      · have hd1 : decide (st < m) = true := decide_eq_true c1
        by_cases c2 : m < en
        · have hd2 : decide (m < en) = true := decide_eq_true c2
          rw [show decide (st < m ∧ m < en) = decide (m < en) by simp [c1]]
          refine WC.region ?_
          refine WO.cons (SV.moveV (by constructor) ?_) (by decide)
          refine WO.cons (SV.moveV (by constructor) ?_) (by decide)
          refine WO.cons (SV.lss rfl rfl ?_) (by decide)
          refine WO.cons (SV.moveV (by constructor) ?_) (by decide)
          refine WO.guardY rfl rfl rfl (by assumption) (SV.moveV (by constructor) ?_) (by decide)
          all_goals (refine WO.guardY rfl rfl rfl (by assumption) (SV.moveV (by constructor) ?_) (by decide))
          all_goals (refine WO.guardY rfl rfl rfl (by assumption) (SV.lss rfl rfl ?_) (by decide))
          all_goals (refine WO.cons (SV.pickTV rfl (by assumption) (by constructor) ?_) (by decide))
          all_goals refine WO.nil ?_
          exact ⟨rfl, rfl, ⟨rfl, rfl, rfl, rfl, rfl, rfl, rfl, rfl, rfl, trivial⟩, rfl⟩
        · have hd2 : decide (m < en) = false := decide_eq_false c2
          rw [show decide (st < m ∧ m < en) = decide (m < en) by simp [c1]]
          refine WC.region ?_
          refine WO.cons (SV.moveV (by constructor) ?_) (by decide)
          refine WO.cons (SV.moveV (by constructor) ?_) (by decide)
          refine WO.cons (SV.lss rfl rfl ?_) (by decide)
          refine WO.cons (SV.moveV (by constructor) ?_) (by decide)
          refine WO.guardY rfl rfl rfl (by assumption) (SV.moveV (by constructor) ?_) (by decide)
          all_goals (refine WO.guardY rfl rfl rfl (by assumption) (SV.moveV (by constructor) ?_) (by decide))
          all_goals (refine WO.guardY rfl rfl rfl (by assumption) (SV.lss rfl rfl ?_) (by decide))
          all_goals (refine WO.cons (SV.pickTV rfl (by assumption) (by constructor) ?_) (by decide))
          all_goals refine WO.nil ?_
          exact ⟨rfl, rfl, ⟨rfl, rfl, rfl, rfl, rfl, rfl, rfl, rfl, rfl, trivial⟩, rfl⟩
      · have hd1 : decide (st < m) = false := decide_eq_false c1
        rw [show decide (st < m ∧ m < en) = false by simp [c1]]
        refine WC.region ?_
        refine WO.cons (SV.moveV (by constructor) ?_) (by decide)
        refine WO.cons (SV.moveV (by constructor) ?_) (by decide)
        refine WO.cons (SV.lss rfl rfl ?_) (by decide)
        refine WO.cons (SV.moveV (by constructor) ?_) (by decide)
        refine WO.guardN rfl rfl rfl (by assumption) ?_ (by decide)
        all_goals (refine WO.guardN rfl rfl rfl (by assumption) ?_ (by decide))
        all_goals (refine WO.guardN rfl rfl rfl (by assumption) ?_ (by decide))
        all_goals (refine WO.cons (SV.pickFV rfl (by assumption) (by constructor) ?_) (by decide))
        all_goals refine WO.nil ?_
        exact ⟨rfl, rfl, ⟨rfl, rfl, rfl, rfl, rfl, rfl, rfl, rfl, rfl, trivial⟩, rfl⟩
    rintro e g3 ds3 s3 ⟨rfl, rfl, hg3, rfl⟩
    rw [← over_same hg3]
    refine thn_n ?_
    refine WC.mono (Q := fun e g' ds' s' => e = .normal ∧ ds' = [] ∧ holds g' [(0, v), (1, .int .i64 a), (3, .int .i64 b), (4, cmpV), (18, .int .i64 mid), (20, .int .i64 st), (24, .int .i64 en)] ∧ s3.next ≤ s'.next ∧ ∃ H1, Models ro s' H1 ∧ SlO H1 v 5 n ((A ++ (X1 ++ (Y1 ++ (X2 ++ (Y2 ++ B))))).flatMap encE) ∧ KeptBut H H1 v) ?_ ?_
    · by_cases c1 : st < m ∧ m < en
      · have hd1 : decide (st < m ∧ m < en) = true := decide_eq_true c1
        refine WC.condT rfl (by assumption) ?_
        refine WC.region ?_
        refine WO.cons (SV.move ?_) (by decide)
        refine WO.cons (SV.moveV (by constructor) ?_) (by decide)
        refine WO.cons (SV.moveV (by constructor) ?_) (by decide)
        refine WO.cons (SV.moveV (by constructor) ?_) (by decide)
        refine WO.cons (SV.moveV (by constructor) ?_) (by decide)
        refine WO.cons ?_ (by decide)
        have hv2 : SlO H v 5 n (((A ++ X1) ++ (X2 ++ (Y1 ++ (Y2 ++ B)))).flatMap encE) := by simpa only [List.append_assoc] using hv'
        refine SV.callM rfl rfl (rot_sp (v := v) (c := cmpV) hX hM1 hv2 (by simpa only [List.append_assoc] using hlen) hbig (by simp only [List.length_append]; omega) (by simp only [List.length_append]; omega) (by simp only [List.length_append]; omega) (by omega) (by omega)) ?_
        rintro r3 s5 H3 hn3 hM3 ⟨rfl, hv3, hk3⟩
        refine WO.nil ?_
        exact ⟨rfl, rfl, ⟨rfl, rfl, rfl, rfl, rfl, rfl, rfl, trivial⟩, by omega, H3, hM3, by simpa only [List.append_assoc] using hv3, hk3⟩
      · have hd1 : decide (st < m ∧ m < en) = false := decide_eq_false c1
        refine WC.condF rfl (by assumption) (WC.skip ?_)
        refine ⟨rfl, rfl, ⟨rfl, rfl, rfl, rfl, rfl, rfl, rfl, trivial⟩, by omega, H, hM1, ?_, KeptBut.refl'⟩
        by_cases c2 : st < m
        · obtain rfl : Y1 = [] := List.length_eq_zero_iff.mp (by omega)
          exact hv'
        · obtain rfl : X2 = [] := List.length_eq_zero_iff.mp (by omega)
          exact hv'
    rintro e g4 ds4 s4 ⟨rfl, rfl, hg4, hn4, H4, hM4, hv4, hk4⟩
    rw [← over_same hg4]
    refine thn_n ?_
    refine WC.seq (WC.seq ?_)
    refine WC.mono (Q := fun e g' ds' s' => e = .normal ∧ ds' = [] ∧ holds g' [(0, v), (1, .int .i64 a), (3, .int .i64 b), (4, cmpV), (18, .int .i64 mid), (20, .int .i64 st), (24, .int .i64 en), (199, .bool (decide (a < st ∧ st < mid)))] ∧ s' = s4) ?_ ?_
    · by_cases c1 : a < st
      · have hd1 : decide (a < st) = true := decide_eq_true c1
        rw [show decide (a < st ∧ st < mid) = decide (st < mid) by simp [c1]]
        by_cases c2 : st < mid
        · have hd2 : decide (st < mid) = true := decide_eq_true c2
          refine WC.region ?_
          refine WO.cons (SV.moveV (by constructor) ?_) (by decide)
          refine WO.cons (SV.moveV (by constructor) ?_) (by decide)
          refine WO.cons (SV.lss rfl rfl ?_) (by decide)
          refine WO.cons (SV.moveV (by constructor) ?_) (by decide)
          refine WO.guardY rfl rfl rfl (by assumption) (SV.moveV (by constructor) ?_) (by decide)
          all_goals (refine WO.guardY rfl rfl rfl (by assumption) (SV.moveV (by constructor) ?_) (by decide))
          all_goals (refine WO.guardY rfl rfl rfl (by assumption) (SV.lss rfl rfl ?_) (by decide))
          all_goals (refine WO.cons (SV.pickTV rfl (by assumption) (by constructor) ?_) (by decide))
          all_goals refine WO.nil ?_
          exact ⟨rfl, rfl, ⟨rfl, rfl, rfl, rfl, rfl, rfl, rfl, rfl, trivial⟩, rfl⟩
        · have hd2 : decide (st < mid) = false := decide_eq_false c2
          refine WC.region ?_
          refine WO.cons (SV.moveV (by constructor) ?_) (by decide)
          refine WO.cons (SV.moveV (by constructor) ?_) (by decide)
          refine WO.cons (SV.lss rfl rfl ?_) (by decide)
          refine WO.cons (SV.moveV (by constructor) ?_) (by decide)
          refine WO.guardY rfl rfl rfl (by assumption) (SV.moveV (by constructor) ?_) (by decide)
          all_goals (refine WO.guardY rfl rfl rfl (by assumption) (SV.moveV (by constructor) ?_) (by decide))
          all_goals (refine WO.guardY rfl rfl rfl (by assumption) (SV.lss rfl rfl ?_) (by decide))
          all_goals (refine WO.cons (SV.pickTV rfl (by assumption) (by constructor) ?_) (by decide))
          all_goals refine WO.nil ?_
          exact ⟨rfl, rfl, ⟨rfl, rfl, rfl, rfl, rfl, rfl, rfl, rfl, trivial⟩, rfl⟩
      · have hd1 : decide (a < st) = false := decide_eq_false c1
        rw [show decide (a < st ∧ st < mid) = false by simp [c1]]
        refine WC.region ?_
        refine WO.cons (SV.moveV (by constructor) ?_) (by decide)
        refine WO.cons (SV.moveV (by constructor) ?_) (by decide)
        refine WO.cons (SV.lss rfl rfl ?_) (by decide)
        refine WO.cons (SV.moveV (by constructor) ?_) (by decide)
        refine WO.guardN rfl rfl rfl (by assumption) ?_ (by decide)
        all_goals (refine WO.guardN rfl rfl rfl (by assumption) ?_ (by decide))
        all_goals (refine WO.guardN rfl rfl rfl (by assumption) ?_ (by decide))
        all_goals (refine WO.cons (SV.pickFV rfl (by assumption) (by constructor) ?_) (by decide))
        all_goals refine WO.nil ?_
        exact ⟨rfl, rfl, ⟨rfl, rfl, rfl, rfl, rfl, rfl, rfl, rfl, trivial⟩, rfl⟩
    rintro e g5 ds5 s5 ⟨rfl, rfl, hg5, rfl⟩
    rw [← over_same hg5]
    refine thn_n ?_
    refine WC.mono (Q := fun e g' ds' s' => e = .normal ∧ ds' = [] ∧ holds g' [(0, v), (1, .int .i64 a), (3, .int .i64 b), (4, cmpV), (18, .int .i64 mid), (20, .int .i64 st), (24, .int .i64 en)] ∧ s5.next ≤ s'.next ∧ ∃ H1 Z1, Models ro s' H1 ∧ SlO H1 v 5 n ((A ++ (Z1 ++ (X2 ++ (Y2 ++ B)))).flatMap encE) ∧ KeptBut H H1 v ∧ Z1.Perm (X1 ++ Y1) ∧ Srt Ed.y0 Z1) ?_ ?_
    · by_cases c1 : a < st ∧ st < mid
      · have hd1 : decide (a < st ∧ st < mid) = true := decide_eq_true c1
        refine WC.condT rfl (by assumption) ?_
        refine WC.region ?_
        refine WO.cons (SV.move ?_) (by decide)
        refine WO.cons (SV.moveV (by constructor) ?_) (by decide)
        refine WO.cons (SV.moveV (by constructor) ?_) (by decide)
        refine WO.cons (SV.moveV (by constructor) ?_) (by decide)
        refine WO.cons (SV.moveV (by constructor) ?_) (by decide)
        refine WO.cons ?_ (by decide)
        refine SV.callM rfl rfl (ih (v := v) (B := X2 ++ (Y2 ++ B)) (a := a) (m := st) (b := mid) (by omega) hM4 hv4 (by simp only [List.length_append]; omega) hbig okp (by omega) (by omega) (by omega) (by omega) (by omega) sX1 sY1) ?_
        rintro r3 s6 H3 hn3 hM3 ⟨rfl, Z1, hv3, hk3, hp3, hs3⟩
        refine WO.nil ?_
        exact ⟨rfl, rfl, ⟨rfl, rfl, rfl, rfl, rfl, rfl, rfl, trivial⟩, by omega, H3, Z1, hM3, hv3, hk4.trans' hk3, hp3, hs3⟩
      · have hd1 : decide (a < st ∧ st < mid) = false := decide_eq_false c1
        refine WC.condF rfl (by assumption) (WC.skip ?_)
        refine ⟨rfl, rfl, ⟨rfl, rfl, rfl, rfl, rfl, rfl, rfl, trivial⟩, by omega, H4, X1 ++ Y1, hM4, by simpa only [List.append_assoc] using hv4, hk4, List.Perm.refl _, ?_⟩
        by_cases c2 : a < st
        · obtain rfl : Y1 = [] := List.length_eq_zero_iff.mp (by omega)
          rw [List.append_nil]; exact sX1
        · obtain rfl : X1 = [] := List.length_eq_zero_iff.mp (by omega)
          exact sY1
    rintro e g6 ds6 s6 ⟨rfl, rfl, hg6, hn6, H6, Z1, hM6, hv6, hk6, hp6, hs6⟩
    rw [← over_same hg6]
    have hlZ := hp6.length_eq
    simp only [List.length_append] at hlZ
    refine thn_n ?_
    refine WC.seq ?_
    refine WC.mono (Q := fun e g' ds' s' => e = .normal ∧ ds' = [] ∧ holds g' [(0, v), (1, .int .i64 a), (3, .int .i64 b), (4, cmpV), (18, .int .i64 mid), (20, .int .i64 st), (24, .int .i64 en), (213, .bool (decide (mid < en ∧ en < b)))] ∧ s' = s6) ?_ ?_
    · by_cases c1 : mid < en
      · have hd1 : decide (mid < en) = true := decide_eq_true c1
        rw [show decide (mid < en ∧ en < b) = decide (en < b) by simp [c1]]
        by_cases c2 : en < b
        · have hd2 : decide (en < b) = true := decide_eq_true c2
          refine WC.region ?_
          refine WO.cons (SV.moveV (by constructor) ?_) (by decide)
          refine WO.cons (SV.moveV (by constructor) ?_) (by decide)
          refine WO.cons (SV.lss rfl rfl ?_) (by decide)
          refine WO.cons (SV.moveV (by constructor) ?_) (by decide)
          refine WO.guardY rfl rfl rfl (by assumption) (SV.moveV (by constructor) ?_) (by decide)
          all_goals (refine WO.guardY rfl rfl rfl (by assumption) (SV.moveV (by constructor) ?_) (by decide))
          all_goals (refine WO.guardY rfl rfl rfl (by assumption) (SV.lss rfl rfl ?_) (by decide))
          all_goals (refine WO.cons (SV.pickTV rfl (by assumption) (by constructor) ?_) (by decide))
          all_goals refine WO.nil ?_
          exact ⟨rfl, rfl, ⟨rfl, rfl, rfl, rfl, rfl, rfl, rfl, rfl, trivial⟩, rfl⟩
        · have hd2 : decide (en < b) = false := decide_eq_false c2
          refine WC.region ?_
          refine WO.cons (SV.moveV (by constructor) ?_) (by decide)
          refine WO.cons (SV.moveV (by constructor) ?_) (by decide)
          refine WO.cons (SV.lss rfl rfl ?_) (by decide)
          refine WO.cons (SV.moveV (by constructor) ?_) (by decide)
          refine WO.guardY rfl rfl rfl (by assumption) (SV.moveV (by constructor) ?_) (by decide)
          all_goals (refine WO.guardY rfl rfl rfl (by assumption) (SV.moveV (by constructor) ?_) (by decide))
          all_goals (refine WO.guardY rfl rfl rfl (by assumption) (SV.lss rfl rfl ?_) (by decide))
          all_goals (refine WO.cons (SV.pickTV rfl (by assumption) (by constructor) ?_) (by decide))
          all_goals refine WO.nil ?_
          exact ⟨rfl, rfl, ⟨rfl, rfl, rfl, rfl, rfl, rfl, rfl, rfl, trivial⟩, rfl⟩
      · have hd1 : decide (mid < en) = false := decide_eq_false c1
        rw [show decide (mid < en ∧ en < b) = false by simp [c1]]
        refine WC.region ?_
        refine WO.cons (SV.moveV (by constructor) ?_) (by decide)
        refine WO.cons (SV.moveV (by constructor) ?_) (by decide)
        refine WO.cons (SV.lss rfl rfl ?_) (by decide)
        refine WO.cons (SV.moveV (by constructor) ?_) (by decide)
        refine WO.guardN rfl rfl rfl (by assumption) ?_ (by decide)
        all_goals (refine WO.guardN rfl rfl rfl (by assumption) ?_ (by decide))
        all_goals (refine WO.guardN rfl rfl rfl (by assumption) ?_ (by decide))
        all_goals (refine WO.cons (SV.pickFV rfl (by assumption) (by constructor) ?_) (by decide))
        all_goals refine WO.nil ?_
        exact ⟨rfl, rfl, ⟨rfl, rfl, rfl, rfl, rfl, rfl, rfl, rfl, trivial⟩, rfl⟩
    rintro e g7 ds7 s7 ⟨rfl, rfl, hg7, rfl⟩
    rw [← over_same hg7]
    refine thn_n ?_
    by_cases c1 : mid < en ∧ en < b
    · have hd1 : decide (mid < en ∧ en < b) = true := decide_eq_true c1
      refine WC.condT rfl (by assumption) ?_
      refine WC.region ?_
      refine WO.cons (SV.move ?_) (by decide)
      refine WO.cons (SV.moveV (by constructor) ?_) (by decide)
      refine WO.cons (SV.moveV (by constructor) ?_) (by decide)
      refine WO.cons (SV.moveV (by constructor) ?_) (by decide)
      refine WO.cons (SV.moveV (by constructor) ?_) (by decide)
      refine WO.cons ?_ (by decide)
      have hv7 : SlO H6 v 5 n (((A ++ Z1) ++ (X2 ++ (Y2 ++ B))).flatMap encE) := by simpa only [List.append_assoc] using hv6
      refine SV.callM rfl rfl (ih (v := v) (A := A ++ Z1) (B := B) (a := mid) (m := en) (b := b) (by omega) hM6 hv7 (by simp only [List.length_append]; omega) hbig okq (by simp only [List.length_append]; omega) (by simp only [List.length_append]; omega) (by simp only [List.length_append]; omega) (by omega) (by omega) sX2 sY2) ?_
      rintro r3 s8 H3 hn3 hM3 ⟨rfl, Z2, hv3, hk3, hp3, hs3⟩
      refine WO.nil ?_
      refine fin_none (e := .normal) rfl trivial (by omega) hM3 ⟨rfl, Z1 ++ Z2, by simpa only [List.append_assoc] using hv3, hk6.trans' hk3, ?_, sX.merge sY g1 g2 hp6 hp3 hs6 hs3⟩
      refine (hp6.append hp3).trans ?_
      simp only [List.append_assoc]
      refine List.Perm.append_left X1 ?_
      rw [← List.append_assoc, ← List.append_assoc]
      exact List.Perm.append_right Y2 List.perm_append_comm
    · have hd1 : decide (mid < en ∧ en < b) = false := decide_eq_false c1
      refine WC.condF rfl (by assumption) (WC.skip ?_)
      have s2' : Srt Ed.y0 (X2 ++ Y2) := by
        by_cases c2 : mid < en
        · obtain rfl : Y2 = [] := List.length_eq_zero_iff.mp (by omega)
          rw [List.append_nil]; exact sX2
        · obtain rfl : X2 = [] := List.length_eq_zero_iff.mp (by omega)
          exact sY2
      refine fin_none (e := .normal) rfl trivial (by omega) hM6 ⟨rfl, Z1 ++ (X2 ++ Y2), by simpa only [List.append_assoc] using hv6, hk6, ?_, sX.merge sY g1 g2 hp6 (List.Perm.refl _) hs6 s2'⟩
      refine (hp6.append (List.Perm.refl _)).trans ?_
      simp only [List.append_assoc]
      refine List.Perm.append_left X1 ?_
      rw [← List.append_assoc, ← List.append_assoc]
      exact List.Perm.append_right Y2 List.perm_append_comm
end Go.Proofs.Ytmlplblhabdbpaa
