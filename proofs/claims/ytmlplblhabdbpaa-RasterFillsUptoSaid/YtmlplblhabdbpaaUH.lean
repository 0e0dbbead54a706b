/- A part of the proof: rules for walking code over the evaluator, and what the functions that were walked come to: no condition but those that each theorem states. -/
import Derived.Test.YtmlplblhabdbpaaUG
set_option linter.unusedVariables false
set_option linter.unusedSimpArgs false
namespace Go.Proofs.Ytmlplblhabdbpaa
open Go.Ab
variable {X : CallE} {ro : Nat}
set_option maxRecDepth 10000
set_option linter.unusedVariables false
set_option linter.unusedSimpArgs false
/-- The document's edge. -/
abbrev De := Spt × Spt
def encD (e : De) : List Value := [.int .i64 e.1.1, .int .i64 e.1.2, .int .i64 e.2.1, .int .i64 e.2.2]
theorem encD_len (e : De) : (encD e).length = 4 := rfl
def loD (e : De) : Int := if e.2.2 < e.1.2 then e.2.2 else e.1.2
def hiD (e : De) : Int := if e.2.2 < e.1.2 then e.1.2 else e.2.2
def keepD (j0 j1 : Int) (e : De) : Bool := decide (loD e < hiD e ∧ loD e < j1 ∧ j0 < hiD e)
def edgeD (c : List Spt) (i : Nat) : De := (c.getD i (0, 0), c.getD ((i + 1) % c.length) (0, 0))
def edgeDs (j0 j1 : Int) (c : List Spt) (i : Nat) : List De := if keepD j0 j1 (edgeD c i) = true then [edgeD c i] else []
def edgesD (j0 j1 : Int) (p : List (List Spt)) : List De := p.flatMap fun c => (List.range c.length).flatMap (edgeDs j0 j1 c)
theorem edgeDs_len (j0 j1 : Int) (c : List Spt) (i : Nat) : (edgeDs j0 j1 c i).length ≤ 1 := by unfold edgeDs; split <;> simp
theorem edgesD_len (j0 j1 : Int) : ∀ p : List (List Spt), (edgesD j0 j1 p).length ≤ totM p
  | [] => by simp [edgesD, totM]
  | c :: p => by
    have h1 := flat_le (f := edgeDs j0 j1 c) (fun i => edgeDs_len _ _ _ _) (List.range c.length)
    rw [List.length_range] at h1
    have h2 := edgesD_len j0 j1 p
    unfold edgesD totM at *
    simp only [List.flatMap_cons, List.length_append, List.map_cons, List.sum_cons]; omega

set_option maxHeartbeats 1000000 in
/-- serifref21.Edges. -/
theorem edgesD_sp {s : St} {H : Hp} {A : Option Addr} {cp : Nat} {p : List (List Spt)} {j0 j1 : Int} (hX : OwnX X) (hM : Models ro s H) (hp : PolyH H A p) (hb : p.length ≤ 1000000000000) (hbig : totM p ≤ 16384) :
    Sp X Try.prog ro 39 [.slice A p.length cp, .int .i64 j0, .int .i64 j1] s fun v H' => SlO H' v 4 (edgesD j0 j1 p).length ((edgesD j0 j1 p).flatMap encD) ∧ Ext H H' ∧ ∀ μ, baseV v = some μ → H μ = none := by
  have hlen := edgesD_len j0 j1 p
  refine Sp.of_body (hX _ _ _ (by decide) (by decide) (by decide) (by decide)) Try.func39 rfl Try.ntmps39 (by simp) ?_
  refine WC.seq ?_
  refine WC.region ?_
  refine WO.cons (SV.assignV (by constructor) ?_) (by decide)
  refine WO.nil ?_
  refine WC.seq ?_
  refine WC.region ?_
  refine WO.cons (SV.buildSliceM (by assumption) rfl rfl (fun a1_0 s1_0 hf1_0 hne1_0 hn1_0 hM1_0 => ?_)) (by decide)
  refine WO.cons (SV.assignV (by constructor) ?_) (by decide)
  refine WO.nil ?_
  replace hM1_0 : Models ro s1_0 (H.up a1_0 (.row 4 [])) := hM1_0
  have hE0 : Ext H (H.up a1_0 (.row 4 [])) := ext_up hne1_0
  refine WC.seq (WC.seq ?_)
  refine WC.region ?_
  refine WO.cons (SV.moveV (by constructor) ?_) (by decide)
  refine WO.cons (SV.len rfl rfl ?_) (by decide)
  refine WO.cons (SV.moveV (by constructor) ?_) (by decide)
  refine WO.nil ?_
  refine WC.block ?_
  refine WC.loop (D := Nat × Value × List De) (fun x => [(1, .int .i64 j0), (2, .int .i64 j1), (7, x.2.1), (15, .slice A p.length cp), (16, .int .i64 p.length), (17, .int .i64 x.1)])
    (fun x s1 => s.next ≤ s1.next ∧ ∃ H1, Models ro s1 H1 ∧ Ext H H1 ∧ SlO H1 x.2.1 4 x.2.2.length (x.2.2.flatMap encD) ∧ (∀ μ, baseV x.2.1 = some μ → H μ = none) ∧ x.1 ≤ p.length ∧ x.2.2 ++ (p.drop x.1).flatMap (fun c => (List.range c.length).flatMap (edgeDs j0 j1 c)) = edgesD j0 j1 p) (fun x => p.length - x.1) (0, .slice (some ⟨a1_0, 0, none⟩) 0 0, []) ?_ ⟨by omega, _, hM1_0, hE0, .inr ⟨a1_0, 0, [], rfl, Hp.up_same, rfl, by simp, by simp⟩, (fun μ h => by cases h; exact hf1_0), Nat.zero_le _, by simp [edgesD]⟩ ?_
  · exact ⟨rfl, rfl, rfl, rfl, rfl, rfl, trivial⟩
  rintro ⟨i, vo, M⟩ g s1 ⟨hn1, H1, hM1, hE1, hv1, hf1, hi, e1⟩
  dsimp only at hi e1 hv1 hf1 ⊢
  refine WC.seq ?_
  refine WC.region ?_
  refine WO.cons (SV.lss rfl rfl ?_) (by decide)
  refine WO.nil ?_
  refine WC.seq ?_
  refine WC.condD rfl (fun hlt hltb => ?_) (fun hlt hltb => ?_)
  · obtain ⟨c, hc, hdr⟩ := drop_cons (L := p) (i := i) (by omega)
    rw [hdr, List.flatMap_cons] at e1
    obtain ⟨ν, o, B, k, rfl, hcell, hS⟩ := hp i c hc
    have hcell1 := cellH_ext hE1 hcell
    have hcl := len_le_tot (List.mem_of_getElem? hc)
    refine WC.skip (WC.seq (WC.block (WC.seq ?_)))
    refine WC.region ?_
    refine WO.cons (SV.indexAddr rfl rfl (by omega) ?_) (by decide)
    refine WO.cons (SV.loadC (by assumption) rfl (by assumption) ?_) (by decide)
    refine WO.cons (SV.assignV (by constructor) ?_) (by decide)
    refine WO.nil ?_
    refine WC.seq ?_
    refine WC.region ?_
    refine WO.cons (SV.moveV (by constructor) ?_) (by decide)
    refine WO.cons (SV.len rfl rfl ?_) (by decide)
    refine WO.cons (SV.moveV (by constructor) ?_) (by decide)
    refine WO.nil ?_
    refine WC.block ?_
    refine WC.loop (D := Nat × Value × List De) (fun x => [(1, .int .i64 j0), (2, .int .i64 j1), (7, x.2.1), (9, .slice B c.length k), (15, .slice (some ⟨ν, o, none⟩) p.length cp), (16, .int .i64 p.length), (17, .int .i64 i), (21, .slice B c.length k), (22, .int .i64 c.length), (23, .int .i64 x.1)])
      (fun x s2 => s.next ≤ s2.next ∧ ∃ H2, Models ro s2 H2 ∧ Ext H H2 ∧ SlO H2 x.2.1 4 x.2.2.length (x.2.2.flatMap encD) ∧ (∀ μ, baseV x.2.1 = some μ → H μ = none) ∧ x.1 ≤ c.length ∧ x.2.2 ++ (((List.range c.length).drop x.1).flatMap (edgeDs j0 j1 c) ++ (p.drop (i + 1)).flatMap (fun c => (List.range c.length).flatMap (edgeDs j0 j1 c))) = edgesD j0 j1 p) (fun x => c.length - x.1) (0, vo, M) ?_ ⟨by omega, H1, hM1, hE1, hv1, hf1, Nat.zero_le _, by rw [List.drop_zero]; exact e1⟩ ?_
    · exact ⟨rfl, rfl, rfl, rfl, rfl, rfl, rfl, rfl, rfl, rfl, trivial⟩
    rintro ⟨j, v2, M2⟩ g s2 ⟨hn2, H2, hM2, hE2, hv2, hf2, hj, f1⟩
    dsimp only at hj f1 hv2 hf2 ⊢
    refine WC.seq ?_
    refine WC.region ?_
    refine WO.cons (SV.lss rfl rfl ?_) (by decide)
    refine WO.nil ?_
    refine WC.seq ?_
    refine WC.condD rfl (fun hlt2 hlt2b => ?_) (fun hlt2 hlt2b => ?_)
    · obtain ⟨q, hq, hdr2⟩ := drop_cons (L := List.range c.length) (i := j) (by rw [List.length_range]; omega)
      have hq : q = j := by rw [List.getElem?_range (by omega)] at hq; cases hq; rfl
      subst hq
      rw [hdr2, List.flatMap_cons] at f1
      have hjl : q < c.length := by omega
      have hml : (q + 1) % c.length < c.length := Nat.mod_lt _ (by omega)
      obtain ⟨a, ha⟩ : ∃ a, c[q]? = some a := ⟨_, List.getElem?_eq_getElem hjl⟩
      obtain ⟨b, hb2⟩ : ∃ b, c[(q + 1) % c.length]? = some b := ⟨_, List.getElem?_eq_getElem hml⟩
      obtain ⟨z, hz0⟩ : ∃ b, c[0]? = some b := ⟨_, List.getElem?_eq_getElem (by omega)⟩
      have hed : edgeD c q = (a, b) := by unfold edgeD; rw [List.getD_eq_getElem?_getD, List.getD_eq_getElem?_getD, ha, hb2]; rfl
      obtain ⟨μ, o2, rfl, ha1, ha2⟩ := (hS.ext hE2).2 q a ha
      obtain ⟨μ', o3, hBe, hb1, hb3⟩ := (hS.ext hE2).2 _ b hb2
      cases hBe
      obtain ⟨μ', o3, hBe, hz1, hz3⟩ := (hS.ext hE2).2 _ z hz0
      cases hBe
      refine WC.skip (WC.seq (WC.block (WC.seq ?_)))
      refine WC.region ?_
      refine WO.cons (SV.moveV (by constructor) ?_) (by decide)
      refine WO.cons (SV.assignV (by constructor) ?_) (by decide)
      refine WO.nil ?_
      refine WC.seq ?_
      refine WC.draw [0, 1, 2, 3, 4, 5, 6, 7, 8, 9] (by kernel_rfl) (by kernel_rfl) (by kernel_rfl) ?_
      refine WD.cons (SV.moveV (by constructor) ?_) (by decide)
      refine WD.cons (SV.moveV (by constructor) ?_) (by decide)
      refine WD.cons (SV.indexAddr rfl rfl (by omega) ?_) (by decide)
      refine WD.cons ?_ (by decide)
      refine SV.loadCA (l := [.int .i64 a.1, .int .i64 a.2]) hM2 rfl rfl (fun i v e => ?_) ?_
      · match i, e with
        | 0, e => cases e; exact ha1
        | 1, e => cases e; exact ha2
      refine WD.cons (SV.moveV (by constructor) ?_) (by decide)
      refine WD.cons (SV.indexAddr rfl rfl (by omega) ?_) (by decide)
      refine WD.cons ?_ (by decide)
      refine SV.loadCA (l := [.int .i64 z.1, .int .i64 z.2]) hM2 rfl rfl (fun i v e => ?_) ?_
      · match i, e with
        | 0, e => cases e; exact hz1
        | 1, e => cases e; exact hz3
      refine WD.cons (SV.build rfl ?_) (by decide)
      refine WD.cons (SV.allocM (by assumption) (fun a8_8 s8_8 hf8_8 hne8_8 hn8_8 hM8_8 => ?_)) (by decide)
      refine WD.cons0 (SV.storeMA (by assumption) rfl rfl rfl rfl (by exact Hp.up_same) (by (simp; done)) (fun s8_9 hn8_9 hM8_9 => ?_))
      refine WD.nil ?_
      rw [Hp.up_up] at hM8_9
      replace hM8_9 : Models ro s8_9 (H2.up a8_8 (.row 0 (encD (a, z)))) := hM8_9
      have hE3 : Ext H2 (H2.up a8_8 (.row 0 (encD (a, z)))) := ext_up hne8_8
      refine WC.seq (WC.seq ?_)
      refine WC.region ?_
      refine WO.cons (SV.moveV (by constructor) ?_) (by decide)
      refine WO.cons (SV.add64 rfl rfl (by omega) ?_) (by decide)
      refine WO.cons (SV.moveV (by constructor) ?_) (by decide)
      refine WO.cons (SV.len rfl rfl ?_) (by decide)
      refine WO.cons (SV.lss rfl rfl ?_) (by decide)
      refine WO.nil ?_
      refine WC.mono (Q := fun e g' ds' s' => e = .normal ∧ ds' = [] ∧ holds g' [(1, .int .i64 j0), (2, .int .i64 j1), (9, .slice (some ⟨μ, o2, none⟩) c.length k), (15, .slice (some ⟨ν, o, none⟩) p.length cp), (16, .int .i64 p.length), (17, .int .i64 i), (21, .slice (some ⟨μ, o2, none⟩) c.length k), (22, .int .i64 c.length), (23, .int .i64 q), (7, v2), (11, .pointer (some ⟨a8_8, 0, none⟩))] ∧ s.next ≤ s'.next ∧ Models ro s' (H2.up a8_8 (.row 0 (encD (a, b))))) ?_ ?_
      · by_cases hl : q + 1 < c.length
        · have hd : decide ((q : Int) + 1 < (c.length : Int)) = true := decide_eq_true (by omega)
          rw [Nat.mod_eq_of_lt hl] at hb1 hb3
          refine WC.condT rfl (by assumption) ?_
          refine WC.region ?_
          refine WO.cons (SV.moveV (by constructor) ?_) (by decide)
          refine WO.cons (SV.moveV (by constructor) ?_) (by decide)
          refine WO.cons (SV.add64 rfl rfl (by omega) ?_) (by decide)
          refine WO.cons (SV.indexAddr rfl rfl (by omega) ?_) (by decide)
          refine WO.cons ?_ (by decide)
          refine SV.loadCA (l := [.int .i64 b.1, .int .i64 b.2]) hM8_9 rfl rfl (fun i v e => ?_) ?_
          · match i, e with
            | 0, e => cases e; rw [show ((q : Int) + 1).toNat = q + 1 by omega]; exact cellH_ext hE3 hb1
            | 1, e => cases e; rw [show ((q : Int) + 1).toNat = q + 1 by omega]; exact cellH_ext hE3 hb3
          refine WO.cons (SV.fieldAddr rfl ?_) (by decide)
          refine WO.cons0 (SV.storeMA (by assumption) rfl rfl rfl rfl (by exact Hp.up_same) (by exact Nat.le_refl _) (fun s10_6 hn10_6 hM10_6 => ?_))
          refine WO.nil ?_
          rw [Hp.up_up] at hM10_6
          exact ⟨rfl, rfl, ⟨rfl, rfl, rfl, rfl, rfl, rfl, rfl, rfl, rfl, rfl, rfl, trivial⟩, by omega, hM10_6⟩
        · have hd : decide ((q : Int) + 1 < (c.length : Int)) = false := decide_eq_false (by omega)
          rw [show q + 1 = c.length by omega, Nat.mod_self, hz0] at hb2
          cases hb2
          refine WC.condF rfl (by assumption) (WC.skip ?_)
          exact ⟨rfl, rfl, ⟨rfl, rfl, rfl, rfl, rfl, rfl, rfl, rfl, rfl, rfl, rfl, trivial⟩, by omega, hM8_9⟩
      rintro e g3 ds3 s3 ⟨rfl, rfl, hg3, hn3, hM3⟩
      rw [← over_same hg3]
      have hrow : (H2.up a8_8 (.row 0 (encD (a, b)))) a8_8 = some (.row 0 (encD (a, b))) := Hp.up_same
      have hE4 : Ext H (H2.up a8_8 (.row 0 (encD (a, b)))) := hE2.up fun ν o e => hne8_8 ν o (hE2 ν o e)
      have hv4 := hv2.upF (o := .row 0 (encD (a, b))) hne8_8
      generalize H2.up a8_8 (.row 0 (encD (a, b))) = H4 at hM3 hrow hE4 hv4
      refine thn_n ?_
      refine WC.seq ?_
      refine WC.draw [0, 1, 2, 3, 4, 5, 6, 7] (by kernel_rfl) (by kernel_rfl) (by kernel_rfl) ?_
      refine WD.cons (SV.fieldAddr rfl ?_) (by decide)
      refine WD.cons (SV.fieldAddr rfl ?_) (by decide)
      refine WD.cons (SV.loadM (by assumption) rfl (by assumption) (by rfl) ?_) (by decide)
      refine WD.cons (SV.fieldAddr rfl ?_) (by decide)
      refine WD.cons (SV.fieldAddr rfl ?_) (by decide)
      refine WD.cons (SV.loadM (by assumption) rfl (by assumption) (by rfl) ?_) (by decide)
      refine WD.cons (SV.assignV (by constructor) ?_) (by decide)
      refine WD.cons (SV.assignV (by constructor) ?_) (by decide)
      refine WD.nil ?_
      refine thn_n ?_
      refine WC.seq (WC.seq ?_)
      refine WC.region ?_
      refine WO.cons (SV.moveV (by constructor) ?_) (by decide)
      refine WO.cons (SV.moveV (by constructor) ?_) (by decide)
      refine WO.cons (SV.gtr rfl rfl ?_) (by decide)
      refine WO.nil ?_
      refine thn_n ?_
      refine WC.mono (Q := fun e g' ds' s' => e = .normal ∧ ds' = [] ∧ holds g' [(1, .int .i64 j0), (2, .int .i64 j1), (9, .slice (some ⟨μ, o2, none⟩) c.length k), (15, .slice (some ⟨ν, o, none⟩) p.length cp), (16, .int .i64 p.length), (17, .int .i64 i), (21, .slice (some ⟨μ, o2, none⟩) c.length k), (22, .int .i64 c.length), (23, .int .i64 q), (7, v2), (11, .pointer (some ⟨a8_8, 0, none⟩)), (12, .int .i64 (loD (a, b))), (13, .int .i64 (hiD (a, b)))] ∧ s' = s3) ?_ ?_
      · by_cases hsw : b.2 < a.2
        · have hd : decide (b.2 < a.2) = true := decide_eq_true hsw
          unfold loD hiD
          dsimp only
          rw [if_pos hsw, if_pos hsw]
          refine WC.condT rfl (by assumption) ?_
          refine WC.region ?_
          refine WO.cons (SV.moveV (by constructor) ?_) (by decide)
          refine WO.cons (SV.moveV (by constructor) ?_) (by decide)
          refine WO.cons (SV.assignV (by constructor) ?_) (by decide)
          refine WO.cons (SV.assignV (by constructor) ?_) (by decide)
          refine WO.nil ?_
          exact ⟨rfl, rfl, ⟨rfl, rfl, rfl, rfl, rfl, rfl, rfl, rfl, rfl, rfl, rfl, rfl, rfl, trivial⟩, rfl⟩
        · have hd : decide (b.2 < a.2) = false := decide_eq_false hsw
          unfold loD hiD
          dsimp only
          rw [if_neg hsw, if_neg hsw]
          refine WC.condF rfl (by assumption) (WC.skip ?_)
          exact ⟨rfl, rfl, ⟨rfl, rfl, rfl, rfl, rfl, rfl, rfl, rfl, rfl, rfl, rfl, rfl, rfl, trivial⟩, rfl⟩
      rintro e g4 ds4 s4 ⟨rfl, rfl, hg4, rfl⟩
      rw [← over_same hg4]
      generalize hlo : loD (a, b) = lo
      generalize hhi : hiD (a, b) = hi'
      have hkd : keepD j0 j1 (edgeD c q) = decide (lo < hi' ∧ lo < j1 ∧ j0 < hi') := by rw [hed]; unfold keepD; rw [hlo, hhi]
      refine thn_n ?_
      refine WC.seq ?_
      refine WC.mono (Q := fun e g' ds' s' => e = .normal ∧ ds' = [] ∧ holds g' [(1, .int .i64 j0), (2, .int .i64 j1), (9, .slice (some ⟨μ, o2, none⟩) c.length k), (15, .slice (some ⟨ν, o, none⟩) p.length cp), (16, .int .i64 p.length), (17, .int .i64 i), (21, .slice (some ⟨μ, o2, none⟩) c.length k), (22, .int .i64 c.length), (23, .int .i64 q), (7, v2), (11, .pointer (some ⟨a8_8, 0, none⟩)), (68, .bool (decide (lo < hi' ∧ lo < j1 ∧ j0 < hi')))] ∧ s' = s4) ?_ ?_
      · by_cases k1 : lo < hi'
        · have hd1 : decide (lo < hi') = true := decide_eq_true k1
          by_cases k2 : lo < j1
          · have hd2 : decide (lo < j1) = true := decide_eq_true k2
            rw [show decide (lo < hi' ∧ lo < j1 ∧ j0 < hi') = decide (j0 < hi') by simp [k1, k2]]
            by_cases k3 : j0 < hi'
            · have hd3 : decide (j0 < hi') = true := decide_eq_true k3
              refine WC.region ?_
              refine WO.cons (SV.moveV (by constructor) ?_) (by decide)
              refine WO.cons (SV.moveV (by constructor) ?_) (by decide)
              refine WO.cons (SV.lss rfl rfl ?_) (by decide)
              refine WO.cons (SV.moveV (by constructor) ?_) (by decide)
              refine WO.guardY rfl rfl rfl (by assumption) (SV.moveV (by constructor) ?_) (by decide)
              all_goals (refine WO.guardY rfl rfl rfl (by assumption) (SV.moveV (by constructor) ?_) (by decide))
              all_goals (refine WO.guardY rfl rfl rfl (by assumption) (SV.lss rfl rfl ?_) (by decide))
              all_goals (refine WO.cons (SV.pickTV rfl (by assumption) (by constructor) ?_) (by decide))
              all_goals refine WO.cons (SV.moveV (by constructor) ?_) (by decide)
              all_goals (refine WO.guardY rfl rfl rfl (by assumption) (SV.moveV (by constructor) ?_) (by decide))
              all_goals (refine WO.guardY rfl rfl rfl (by assumption) (SV.moveV (by constructor) ?_) (by decide))
              all_goals (refine WO.guardY rfl rfl rfl (by assumption) (SV.gtr rfl rfl ?_) (by decide))
              all_goals (refine WO.cons (SV.pickTV rfl (by assumption) (by constructor) ?_) (by decide))
              all_goals refine WO.nil ?_
              exact ⟨rfl, rfl, ⟨rfl, rfl, rfl, rfl, rfl, rfl, rfl, rfl, rfl, rfl, rfl, rfl, trivial⟩, rfl⟩
            · have hd3 : decide (j0 < hi') = false := decide_eq_false k3
              refine WC.region ?_
              refine WO.cons (SV.moveV (by constructor) ?_) (by decide)
              refine WO.cons (SV.moveV (by constructor) ?_) (by decide)
              refine WO.cons (SV.lss rfl rfl ?_) (by decide)
              refine WO.cons (SV.moveV (by constructor) ?_) (by decide)
              refine WO.guardY rfl rfl rfl (by assumption) (SV.moveV (by constructor) ?_) (by decide)
              all_goals (refine WO.guardY rfl rfl rfl (by assumption) (SV.moveV (by constructor) ?_) (by decide))
              all_goals (refine WO.guardY rfl rfl rfl (by assumption) (SV.lss rfl rfl ?_) (by decide))
              all_goals (refine WO.cons (SV.pickTV rfl (by assumption) (by constructor) ?_) (by decide))
              all_goals refine WO.cons (SV.moveV (by constructor) ?_) (by decide)
              all_goals (refine WO.guardY rfl rfl rfl (by assumption) (SV.moveV (by constructor) ?_) (by decide))
              all_goals (refine WO.guardY rfl rfl rfl (by assumption) (SV.moveV (by constructor) ?_) (by decide))
              all_goals (refine WO.guardY rfl rfl rfl (by assumption) (SV.gtr rfl rfl ?_) (by decide))
              all_goals (refine WO.cons (SV.pickTV rfl (by assumption) (by constructor) ?_) (by decide))
              all_goals refine WO.nil ?_
              exact ⟨rfl, rfl, ⟨rfl, rfl, rfl, rfl, rfl, rfl, rfl, rfl, rfl, rfl, rfl, rfl, trivial⟩, rfl⟩
          · have hd2 : decide (lo < j1) = false := decide_eq_false k2
            rw [show decide (lo < hi' ∧ lo < j1 ∧ j0 < hi') = false by simp [k2]]
            refine WC.region ?_
            refine WO.cons (SV.moveV (by constructor) ?_) (by decide)
            refine WO.cons (SV.moveV (by constructor) ?_) (by decide)
            refine WO.cons (SV.lss rfl rfl ?_) (by decide)
            refine WO.cons (SV.moveV (by constructor) ?_) (by decide)
            refine WO.guardY rfl rfl rfl (by assumption) (SV.moveV (by constructor) ?_) (by decide)
            all_goals (refine WO.guardY rfl rfl rfl (by assumption) (SV.moveV (by constructor) ?_) (by decide))
            all_goals (refine WO.guardY rfl rfl rfl (by assumption) (SV.lss rfl rfl ?_) (by decide))
            all_goals (refine WO.cons (SV.pickTV rfl (by assumption) (by constructor) ?_) (by decide))
            all_goals refine WO.cons (SV.moveV (by constructor) ?_) (by decide)
            all_goals (refine WO.guardN rfl rfl rfl (by assumption) ?_ (by decide))
            all_goals (refine WO.guardN rfl rfl rfl (by assumption) ?_ (by decide))
            all_goals (refine WO.guardN rfl rfl rfl (by assumption) ?_ (by decide))
            all_goals (refine WO.cons (SV.pickFV rfl (by assumption) (by constructor) ?_) (by decide))
            all_goals refine WO.nil ?_
            exact ⟨rfl, rfl, ⟨rfl, rfl, rfl, rfl, rfl, rfl, rfl, rfl, rfl, rfl, rfl, rfl, trivial⟩, rfl⟩
        · have hd1 : decide (lo < hi') = false := decide_eq_false k1
          rw [show decide (lo < hi' ∧ lo < j1 ∧ j0 < hi') = false by simp [k1]]
          refine WC.region ?_
          refine WO.cons (SV.moveV (by constructor) ?_) (by decide)
          refine WO.cons (SV.moveV (by constructor) ?_) (by decide)
          refine WO.cons (SV.lss rfl rfl ?_) (by decide)
          refine WO.cons (SV.moveV (by constructor) ?_) (by decide)
          refine WO.guardN rfl rfl rfl (by assumption) ?_ (by decide)
          all_goals (refine WO.guardN rfl rfl rfl (by assumption) ?_ (by decide))
          all_goals (refine WO.guardN rfl rfl rfl (by assumption) ?_ (by decide))
          all_goals (refine WO.cons (SV.pickFV rfl (by assumption) (by constructor) ?_) (by decide))
          all_goals refine WO.cons (SV.moveV (by constructor) ?_) (by decide)
          all_goals (refine WO.guardN rfl rfl rfl (by rfl) ?_ (by decide))
          all_goals (refine WO.guardN rfl rfl rfl (by rfl) ?_ (by decide))
          all_goals (refine WO.guardN rfl rfl rfl (by rfl) ?_ (by decide))
          all_goals (refine WO.cons (SV.pickFV rfl (by rfl) (by constructor) ?_) (by decide))
          all_goals refine WO.nil ?_
          exact ⟨rfl, rfl, ⟨rfl, rfl, rfl, rfl, rfl, rfl, rfl, rfl, rfl, rfl, rfl, rfl, trivial⟩, rfl⟩
      rintro e g5 ds5 s5 ⟨rfl, rfl, hg5, rfl⟩
      rw [← over_same hg5]
      have hMl : M2.length ≤ totM p := by
        have := congrArg List.length f1
        simp only [List.length_append] at this
        omega
      refine thn_n ?_
      by_cases hk : keepD j0 j1 (edgeD c q) = true
      · have hd : decide (lo < hi' ∧ lo < j1 ∧ j0 < hi') = true := by rw [← hkd]; exact hk
        have hN : edgeDs j0 j1 c q = [(a, b)] := by unfold edgeDs; rw [if_pos hk, hed]
        refine WC.condT rfl (by assumption) ?_
        refine WC.region ?_
        refine WO.cons (SV.move ?_) (by decide)
        refine WO.cons ?_ (by decide)
        refine SV.loadMA (l := encD (a, b)) hM3 rfl hrow rfl (fun i v hv => by rw [Nat.zero_add]; exact hv) ?_
        refine WO.cons (SV.buildSliceM (by assumption) rfl rfl (fun a15_2 s15_2 hf15_2 hne15_2 hn15_2 hM15_2 => ?_)) (by decide)
        refine WO.cons ?_ (by decide)
        replace hM15_2 : Models ro s15_2 (H4.up a15_2 (.row 4 (encD (a, b)))) := hM15_2
        refine SV.appendM (sz := 4) (sz' := 4) (n := M2.length) (m := 1) (vs := M2.flatMap encD) (xs := encD (a, b)) rfl hM15_2 rfl rfl (hv4.upF hne15_2) (Src.row Hp.up_same rfl rfl (fun i v hv => by rw [Nat.zero_add]; exact hv)) rfl (by omega) (fun v8 s8 H8 hn8 hM8 hv8 hk8 hnew8 _ => ?_)
        refine WO.cons (SV.assign ?_) (by decide)
        refine WO.nil ?_
        refine WC.region ?_
        refine WO.cons (SV.add64 rfl rfl (by omega) ?_) (by decide)
        refine WO.cons (SV.moveV (by constructor) ?_) (by decide)
        refine WO.nil ?_
        have hE5 : Ext H (H4.up a15_2 (.row 4 (encD (a, b)))) := hE4.up fun ν o e => hne15_2 ν o (hE4 ν o e)
        refine ⟨rfl, (q + 1, v8, M2 ++ [(a, b)]), ⟨rfl, rfl, rfl, rfl, rfl, rfl, rfl, rfl, rfl, by show some (Value.int .i64 ((q : Int) + 1)) = _; rfl, trivial⟩, ⟨by omega, H8, hM8, hE5.kept hk8 hf2, ?_, hnew8.none hE5 hf2, by dsimp only; omega, ?_⟩, by dsimp only; omega⟩
        · dsimp only; rw [List.flatMap_append, List.length_append]; simpa using hv8
        · rw [← f1, hN]; simp only [List.append_assoc]
      · have hd : decide (lo < hi' ∧ lo < j1 ∧ j0 < hi') = false := by rw [← hkd]; simpa using hk
        have hN : edgeDs j0 j1 c q = [] := by unfold edgeDs; rw [if_neg hk]
        refine WC.condF rfl (by assumption) (WC.skip ?_)
        refine WC.region ?_
        refine WO.cons (SV.add64 rfl rfl (by omega) ?_) (by decide)
        refine WO.cons (SV.moveV (by constructor) ?_) (by decide)
        refine WO.nil ?_
        refine ⟨rfl, (q + 1, v2, M2), ⟨rfl, rfl, rfl, rfl, rfl, rfl, rfl, rfl, rfl, by show some (Value.int .i64 ((q : Int) + 1)) = _; rfl, trivial⟩, ⟨by omega, H4, hM3, hE4, hv4, hf2, by dsimp only; omega, ?_⟩, by dsimp only; omega⟩
        rw [← f1, hN]; simp only [List.nil_append]
    · refine WC.exit ?_
      have hz : (List.range c.length).drop j = [] := List.drop_eq_nil_of_le (by rw [List.length_range]; omega)
      rw [hz, List.flatMap_nil, List.nil_append] at f1
      refine WC.region ?_
      refine WO.cons (SV.add64 rfl rfl (by omega) ?_) (by decide)
      refine WO.cons (SV.moveV (by constructor) ?_) (by decide)
      refine WO.nil ?_
      exact ⟨rfl, (i + 1, v2, M2), ⟨rfl, rfl, rfl, rfl, rfl, by show some (Value.int .i64 ((i : Int) + 1)) = _; rfl, trivial⟩, ⟨by omega, H2, hM2, hE2, hv2, hf2, by dsimp only; omega, f1⟩, by dsimp only; omega⟩
  · have hz : p.drop i = [] := List.drop_eq_nil_of_le (by omega)
    rw [hz, List.flatMap_nil, List.append_nil] at e1
    subst e1
    refine WC.exit (WC.seq ?_)
    refine WC.region ?_
    refine WO.cons (SV.move ?_) (by decide)
    refine WO.cons (SV.assign ?_) (by decide)
    refine WO.nil ?_
    refine WC.ret ?_
    exact fin_one (e := .ret) rfl trivial rfl (by omega) hM1 ⟨hv1, hE1, hf1⟩
end Go.Proofs.Ytmlplblhabdbpaa

namespace Go.Proofs.Ytmlplblhabdbpaa
open Go.Ab
variable {X : CallE} {ro : Nat}
set_option maxRecDepth 10000
set_option linter.unusedVariables false
set_option linter.unusedSimpArgs false
def leftD (e : De) (j : Int) : Int := 2 * (e.2.2 - e.1.2) * e.1.1 + (e.2.1 - e.1.1) * (2 * j + 1 - 2 * e.1.2)
def rightD (e : De) (i : Int) : Int := (e.2.2 - e.1.2) * (2 * i + 1)
def wOne (e : De) (i j : Int) : Int := if e.1.2 ≤ j ∧ j < e.2.2 then (if leftD e j ≤ rightD e i then 1 else 0) else if e.2.2 ≤ j ∧ j < e.1.2 then (if rightD e i ≤ leftD e j then -1 else 0) else 0
def windD (l : List De) (i j : Int) : Int := (l.map fun e => wOne e i j).sum
theorem wOne_bd (e : De) (i j : Int) : -1 ≤ wOne e i j ∧ wOne e i j ≤ 1 := by unfold wOne; (repeat' split) <;> omega
def okD (e : De) : Prop := okS e.1 ∧ okS e.2
theorem left_bd {e : De} {i j : Int} (h : okD e) (hi : -4294967296 ≤ i ∧ i ≤ 4294967296) (hj : -16777216 ≤ j ∧ j ≤ 16777216) :
    (-1125899906842624 ≤ 2 * (e.2.2 - e.1.2) * e.1.1 ∧ 2 * (e.2.2 - e.1.2) * e.1.1 ≤ 1125899906842624) ∧ (-4503599627370496 ≤ (e.2.1 - e.1.1) * (2 * j + 1 - 2 * e.1.2) ∧ (e.2.1 - e.1.1) * (2 * j + 1 - 2 * e.1.2) ≤ 4503599627370496) ∧
    (-576460752303423488 ≤ (e.2.2 - e.1.2) * (2 * i + 1) ∧ (e.2.2 - e.1.2) * (2 * i + 1) ≤ 576460752303423488) := by
  obtain ⟨⟨h1, h2⟩, h3, h4⟩ := h
  have a := mul_bd (a := 2 * (e.2.2 - e.1.2)) (b := e.1.1) (A := 67108864) (B := 16777216) (by omega) (by omega)
  have b := mul_bd (a := e.2.1 - e.1.1) (b := 2 * j + 1 - 2 * e.1.2) (A := 33554432) (B := 134217728) (by omega) (by omega)
  have c := mul_bd (a := e.2.2 - e.1.2) (b := 2 * i + 1) (A := 33554432) (B := 17179869184) (by omega) (by omega)
  exact ⟨by omega, by omega, by omega⟩
set_option maxHeartbeats 1000000 in
/-- serifref21.Winding. -/
theorem windD_sp {s : St} {H : Hp} {v : Value} {l : List De} {i j : Int} (hX : OwnX X) (hM : Models ro s H) (hv : SlO H v 4 l.length (l.flatMap encD)) (hl : l.length ≤ 1000000) (hok : ∀ e ∈ l, okD e) (hi : -4294967296 ≤ i ∧ i ≤ 4294967296) :
    Sp X Try.prog ro 40 [v, .int .i64 i, .int .i64 j] s fun r H' => r = .int .i64 (windD l i j) ∧ H' = H := by
  refine Sp.of_body (hX _ _ _ (by decide) (by decide) (by decide) (by decide)) Try.func40 rfl Try.ntmps40 (by simp) ?_
  refine WC.seq ?_
  refine WC.region ?_
  refine WO.cons (SV.assignV (by constructor) ?_) (by decide)
  refine WO.nil ?_
  refine WC.seq ?_
  refine WC.region ?_
  refine WO.cons (SV.assignV (by constructor) ?_) (by decide)
  refine WO.nil ?_
  refine WC.seq (WC.seq ?_)
  refine WC.region ?_
  refine WO.cons (SV.move ?_) (by decide)
  refine WO.cons (SV.lenO rfl rfl (by assumption) ?_) (by decide)
  refine WO.cons (SV.moveV (by constructor) ?_) (by decide)
  refine WO.nil ?_
  refine WC.block ?_
  refine WC.loop (D := Nat × Int) (fun x => [(1, .int .i64 i), (2, .int .i64 j), (7, .int .i64 x.2), (14, v), (15, .int .i64 l.length), (16, .int .i64 x.1)])
    (fun x s1 => s.next ≤ s1.next ∧ Models ro s1 H ∧ x.1 ≤ l.length ∧ x.2 + windD (l.drop x.1) i j = windD l i j ∧ -(x.1 : Int) ≤ x.2 ∧ x.2 ≤ x.1) (fun x => l.length - x.1) (0, 0) ?_ ⟨by omega, hM, Nat.zero_le _, by simp, by dsimp only; omega, by dsimp only; omega⟩ ?_
  · exact ⟨rfl, rfl, rfl, rfl, rfl, rfl, trivial⟩
  rintro ⟨k, w⟩ g s1 ⟨hn1, hM1, hk, e1, e2, e3⟩
  dsimp only at hk e1 e2 e3 ⊢
  refine WC.seq ?_
  refine WC.region ?_
  refine WO.cons (SV.lss rfl rfl ?_) (by decide)
  refine WO.nil ?_
  refine WC.seq ?_
  refine WC.condD rfl (fun hlt hltb => ?_) (fun hlt hltb => ?_)
  · obtain ⟨e, he, hdr⟩ := drop_cons (L := l) (i := k) (by omega)
    have hoke := hok e (List.mem_of_getElem? he)
    rw [hdr] at e1
    have hws : windD (e :: l.drop (k + 1)) i j = wOne e i j + windD (l.drop (k + 1)) i j := by unfold windD; simp
    rw [hws] at e1
    have hwb := wOne_bd e i j
    obtain ⟨ν, cv, rfl⟩ := hv.nonnil (by omega)
    refine WC.skip (WC.seq (WC.block (WC.seq ?_)))
    refine WC.region ?_
    refine WO.cons (SV.indexAddr rfl rfl (by omega) ?_) (by decide)
    refine WO.cons ?_ (by decide)
    refine SV.loadSl hM1 rfl hv encD_len rfl he (by omega) ?_
    refine WO.cons (SV.allocM (by assumption) (fun a4_2 s4_2 hf4_2 hne4_2 hn4_2 hM4_2 => ?_)) (by decide)
    refine WO.cons0 (SV.storeMA (by assumption) rfl rfl rfl rfl (by exact Hp.up_same) (by exact Nat.le_refl _) (fun s4_3 hn4_3 hM4_3 => ?_))
    refine WO.nil ?_
    rw [Hp.up_up] at hM4_3
    replace hM4_3 : Models ro s4_3 (H.up a4_2 (.row 0 (encD e))) := hM4_3
    have hsub : ∀ {s9 : St}, Models ro s9 (H.up a4_2 (.row 0 (encD e))) → Models ro s9 H := fun h => h.sub fun ν o h => Hp.up_ne (hne4_2 ν o h) h
    refine WC.seq ?_
    refine WC.region ?_
    refine WO.cons (SV.assignV (by constructor) ?_) (by decide)
    refine WO.nil ?_
    refine WC.seq (WC.seq ?_)
    refine WC.mono (Q := fun e' g' ds' s' => e' = .normal ∧ ds' = [] ∧ holds g' [(1, .int .i64 i), (2, .int .i64 j), (14, .slice (some ⟨ν, 0, none⟩) l.length cv), (15, .int .i64 l.length), (16, .int .i64 k), (7, .int .i64 w), (9, .pointer (some ⟨a4_2, 0, none⟩)), (10, .int .i64 0), (31, .bool (decide (e.1.2 ≤ j ∧ j < e.2.2)))] ∧ s' = s4_3) ?_ ?_
    · by_cases h1 : e.1.2 ≤ j
      · have hd1 : decide (e.1.2 ≤ j) = true := decide_eq_true h1
        rw [show decide (e.1.2 ≤ j ∧ j < e.2.2) = decide (j < e.2.2) by simp [h1]]
        refine WC.region ?_
        refine WO.cons (SV.fieldAddr rfl ?_) (by decide)
        refine WO.cons (SV.fieldAddr rfl ?_) (by decide)
        refine WO.cons (SV.loadM (by assumption) rfl (by exact Hp.up_same) (by rfl) ?_) (by decide)
        refine WO.cons (SV.moveV (by constructor) ?_) (by decide)
        refine WO.cons (SV.leq rfl rfl ?_) (by decide)
        refine WO.cons (SV.moveV (by constructor) ?_) (by decide)
        refine WO.guardY rfl rfl rfl (by assumption) (SV.moveV (by constructor) ?_) (by decide)
        all_goals (refine WO.guardY rfl rfl rfl (by assumption) (SV.fieldAddr rfl ?_) (by decide))
        all_goals (refine WO.guardY rfl rfl rfl (by assumption) (SV.fieldAddr rfl ?_) (by decide))
        all_goals (refine WO.guardY rfl rfl rfl (by assumption) (SV.loadM (by assumption) rfl (by exact Hp.up_same) (by rfl) ?_) (by decide))
        all_goals (refine WO.guardY rfl rfl rfl (by assumption) (SV.lss rfl rfl ?_) (by decide))
        all_goals (refine WO.cons (SV.pickTV rfl (by assumption) (by constructor) ?_) (by decide))
        all_goals refine WO.nil ?_
        exact ⟨rfl, rfl, ⟨rfl, rfl, rfl, rfl, rfl, rfl, rfl, rfl, rfl, trivial⟩, rfl⟩
      · have hd1 : decide (e.1.2 ≤ j) = false := decide_eq_false h1
        rw [show decide (e.1.2 ≤ j ∧ j < e.2.2) = false by simp [h1]]
        refine WC.region ?_
        refine WO.cons (SV.fieldAddr rfl ?_) (by decide)
        refine WO.cons (SV.fieldAddr rfl ?_) (by decide)
        refine WO.cons (SV.loadM (by assumption) rfl (by exact Hp.up_same) (by rfl) ?_) (by decide)
        refine WO.cons (SV.moveV (by constructor) ?_) (by decide)
        refine WO.cons (SV.leq rfl rfl ?_) (by decide)
        refine WO.cons (SV.moveV (by constructor) ?_) (by decide)
        refine WO.guardN rfl rfl rfl (by assumption) ?_ (by decide)
        all_goals (refine WO.guardN rfl rfl rfl (by assumption) ?_ (by decide))
        all_goals (refine WO.guardN rfl rfl rfl (by assumption) ?_ (by decide))
        all_goals (refine WO.guardN rfl rfl rfl (by assumption) ?_ (by decide))
        all_goals (refine WO.guardN rfl rfl rfl (by assumption) ?_ (by decide))
        all_goals (refine WO.cons (SV.pickFV rfl (by assumption) (by constructor) ?_) (by decide))
        all_goals refine WO.nil ?_
        exact ⟨rfl, rfl, ⟨rfl, rfl, rfl, rfl, rfl, rfl, rfl, rfl, rfl, trivial⟩, rfl⟩
    rintro e' g3 ds3 s3 ⟨rfl, rfl, hg3, rfl⟩
    rw [← over_same hg3]
    refine thn_n ?_
    refine WC.mono (Q := fun e' g' ds' s' => e' = .normal ∧ ds' = [] ∧ holds g' [(1, .int .i64 i), (2, .int .i64 j), (14, .slice (some ⟨ν, 0, none⟩) l.length cv), (15, .int .i64 l.length), (16, .int .i64 k), (7, .int .i64 w), (9, .pointer (some ⟨a4_2, 0, none⟩)), (10, .int .i64 (if e.1.2 ≤ j ∧ j < e.2.2 then 1 else 0))] ∧ s' = s3) ?_ ?_
    · by_cases h1 : e.1.2 ≤ j ∧ j < e.2.2
      · have hd1 : decide (e.1.2 ≤ j ∧ j < e.2.2) = true := decide_eq_true h1
        rw [if_pos h1]
        refine WC.condT rfl (by assumption) ?_
        refine WC.region ?_
        refine WO.cons (SV.assignV (by constructor) ?_) (by decide)
        refine WO.nil ?_
        exact ⟨rfl, rfl, ⟨rfl, rfl, rfl, rfl, rfl, rfl, rfl, rfl, trivial⟩, rfl⟩
      · have hd1 : decide (e.1.2 ≤ j ∧ j < e.2.2) = false := decide_eq_false h1
        rw [if_neg h1]
        refine WC.condF rfl (by assumption) (WC.skip ?_)
        exact ⟨rfl, rfl, ⟨rfl, rfl, rfl, rfl, rfl, rfl, rfl, rfl, trivial⟩, rfl⟩
    rintro e' g4 ds4 s4 ⟨rfl, rfl, hg4, rfl⟩
    rw [← over_same hg4]
    generalize hb1 : (if e.1.2 ≤ j ∧ j < e.2.2 then (1 : Int) else 0) = b1
    refine thn_n ?_
    refine WC.seq (WC.seq ?_)
    refine WC.mono (Q := fun e' g' ds' s' => e' = .normal ∧ ds' = [] ∧ holds g' [(1, .int .i64 i), (2, .int .i64 j), (14, .slice (some ⟨ν, 0, none⟩) l.length cv), (15, .int .i64 l.length), (16, .int .i64 k), (7, .int .i64 w), (9, .pointer (some ⟨a4_2, 0, none⟩)), (10, .int .i64 b1), (43, .bool (decide (e.2.2 ≤ j ∧ j < e.1.2)))] ∧ s' = s4) ?_ ?_
    · by_cases h1 : e.2.2 ≤ j
      · have hd1 : decide (e.2.2 ≤ j) = true := decide_eq_true h1
        rw [show decide (e.2.2 ≤ j ∧ j < e.1.2) = decide (j < e.1.2) by simp [h1]]
        refine WC.region ?_
        refine WO.cons (SV.fieldAddr rfl ?_) (by decide)
        refine WO.cons (SV.fieldAddr rfl ?_) (by decide)
        refine WO.cons (SV.loadM (by assumption) rfl (by exact Hp.up_same) (by rfl) ?_) (by decide)
        refine WO.cons (SV.moveV (by constructor) ?_) (by decide)
        refine WO.cons (SV.leq rfl rfl ?_) (by decide)
        refine WO.cons (SV.moveV (by constructor) ?_) (by decide)
        refine WO.guardY rfl rfl rfl (by assumption) (SV.moveV (by constructor) ?_) (by decide)
        all_goals (refine WO.guardY rfl rfl rfl (by assumption) (SV.fieldAddr rfl ?_) (by decide))
        all_goals (refine WO.guardY rfl rfl rfl (by assumption) (SV.fieldAddr rfl ?_) (by decide))
        all_goals (refine WO.guardY rfl rfl rfl (by assumption) (SV.loadM (by assumption) rfl (by exact Hp.up_same) (by rfl) ?_) (by decide))
        all_goals (refine WO.guardY rfl rfl rfl (by assumption) (SV.lss rfl rfl ?_) (by decide))
        all_goals (refine WO.cons (SV.pickTV rfl (by assumption) (by constructor) ?_) (by decide))
        all_goals refine WO.nil ?_
        exact ⟨rfl, rfl, ⟨rfl, rfl, rfl, rfl, rfl, rfl, rfl, rfl, rfl, trivial⟩, rfl⟩
      · have hd1 : decide (e.2.2 ≤ j) = false := decide_eq_false h1
        rw [show decide (e.2.2 ≤ j ∧ j < e.1.2) = false by simp [h1]]
        refine WC.region ?_
        refine WO.cons (SV.fieldAddr rfl ?_) (by decide)
        refine WO.cons (SV.fieldAddr rfl ?_) (by decide)
        refine WO.cons (SV.loadM (by assumption) rfl (by exact Hp.up_same) (by rfl) ?_) (by decide)
        refine WO.cons (SV.moveV (by constructor) ?_) (by decide)
        refine WO.cons (SV.leq rfl rfl ?_) (by decide)
        refine WO.cons (SV.moveV (by constructor) ?_) (by decide)
        refine WO.guardN rfl rfl rfl (by assumption) ?_ (by decide)
        all_goals (refine WO.guardN rfl rfl rfl (by assumption) ?_ (by decide))
        all_goals (refine WO.guardN rfl rfl rfl (by assumption) ?_ (by decide))
        all_goals (refine WO.guardN rfl rfl rfl (by assumption) ?_ (by decide))
        all_goals (refine WO.guardN rfl rfl rfl (by assumption) ?_ (by decide))
        all_goals (refine WO.cons (SV.pickFV rfl (by assumption) (by constructor) ?_) (by decide))
        all_goals refine WO.nil ?_
        exact ⟨rfl, rfl, ⟨rfl, rfl, rfl, rfl, rfl, rfl, rfl, rfl, rfl, trivial⟩, rfl⟩
    rintro e' g5 ds5 s5 ⟨rfl, rfl, hg5, rfl⟩
    rw [← over_same hg5]
    refine thn_n ?_
    refine WC.mono (Q := fun e' g' ds' s' => e' = .normal ∧ ds' = [] ∧ holds g' [(1, .int .i64 i), (2, .int .i64 j), (14, .slice (some ⟨ν, 0, none⟩) l.length cv), (15, .int .i64 l.length), (16, .int .i64 k), (7, .int .i64 w), (9, .pointer (some ⟨a4_2, 0, none⟩)), (10, .int .i64 (if e.2.2 ≤ j ∧ j < e.1.2 then -1 else b1))] ∧ s' = s5) ?_ ?_
    · by_cases h1 : e.2.2 ≤ j ∧ j < e.1.2
      · have hd1 : decide (e.2.2 ≤ j ∧ j < e.1.2) = true := decide_eq_true h1
        rw [if_pos h1]
        refine WC.condT rfl (by assumption) ?_
        refine WC.region ?_
        refine WO.cons (SV.assignV (by constructor) ?_) (by decide)
        refine WO.nil ?_
        exact ⟨rfl, rfl, ⟨rfl, rfl, rfl, rfl, rfl, rfl, rfl, rfl, trivial⟩, rfl⟩
      · have hd1 : decide (e.2.2 ≤ j ∧ j < e.1.2) = false := decide_eq_false h1
        rw [if_neg h1]
        refine WC.condF rfl (by assumption) (WC.skip ?_)
        exact ⟨rfl, rfl, ⟨rfl, rfl, rfl, rfl, rfl, rfl, rfl, rfl, trivial⟩, rfl⟩
    rintro e' g6 ds6 s6 ⟨rfl, rfl, hg6, rfl⟩
    rw [← over_same hg6]
    by_cases c1 : e.1.2 ≤ j ∧ j < e.2.2
    · rw [if_pos c1] at hb1
      subst hb1
      rw [if_neg (show ¬ (e.2.2 ≤ j ∧ j < e.1.2) by omega)]
      obtain ⟨⟨o1, o2⟩, o3, o4⟩ := hoke
      obtain ⟨⟨u1, u2⟩, ⟨u3, u4⟩, u5, u6⟩ := left_bd (e := e) (i := i) (j := j) ⟨⟨o1, o2⟩, o3, o4⟩ hi (by omega)
      refine thn_n ?_
      refine WC.seq (WC.seq ?_)
      refine WC.region ?_
      refine WO.cons (SV.moveV (by constructor) ?_) (by decide)
      refine WO.cons (SV.eqlI rfl rfl ?_) (by decide)
      refine WO.nil ?_
      refine WC.condF rfl (by rfl) (WC.skip (WC.seq ?_))
      refine WC.region ?_
      refine WO.cons (SV.fieldAddr rfl ?_) (by decide)
      refine WO.cons (SV.fieldAddr rfl ?_) (by decide)
      refine WO.cons (SV.loadM (by assumption) rfl (by exact Hp.up_same) (by rfl) ?_) (by decide)
      refine WO.cons (SV.fieldAddr rfl ?_) (by decide)
      refine WO.cons (SV.fieldAddr rfl ?_) (by decide)
      refine WO.cons (SV.loadM (by assumption) rfl (by exact Hp.up_same) (by rfl) ?_) (by decide)
      refine WO.cons (SV.sub64 rfl rfl (by omega) ?_) (by decide)
      refine WO.cons (SV.assignV (by constructor) ?_) (by decide)
      refine WO.nil ?_
      refine WC.seq ?_
      refine WC.region ?_
      refine WO.cons (SV.moveV (by constructor) ?_) (by decide)
      refine WO.cons (SV.mul64 rfl rfl (by omega) ?_) (by decide)
      refine WO.cons (SV.fieldAddr rfl ?_) (by decide)
      refine WO.cons (SV.fieldAddr rfl ?_) (by decide)
      refine WO.cons (SV.loadM (by assumption) rfl (by exact Hp.up_same) (by rfl) ?_) (by decide)
      refine WO.cons (SV.mul64 rfl rfl (by omega) ?_) (by decide)
      refine WO.cons (SV.fieldAddr rfl ?_) (by decide)
      refine WO.cons (SV.fieldAddr rfl ?_) (by decide)
      refine WO.cons (SV.loadM (by assumption) rfl (by exact Hp.up_same) (by rfl) ?_) (by decide)
      refine WO.cons (SV.fieldAddr rfl ?_) (by decide)
      refine WO.cons (SV.fieldAddr rfl ?_) (by decide)
      refine WO.cons (SV.loadM (by assumption) rfl (by exact Hp.up_same) (by rfl) ?_) (by decide)
      refine WO.cons (SV.sub64 rfl rfl (by omega) ?_) (by decide)
      refine WO.cons (SV.moveV (by constructor) ?_) (by decide)
      refine WO.cons (SV.mul64 rfl rfl (by omega) ?_) (by decide)
      refine WO.cons (SV.add64 rfl rfl (by omega) ?_) (by decide)
      refine WO.cons (SV.fieldAddr rfl ?_) (by decide)
      refine WO.cons (SV.fieldAddr rfl ?_) (by decide)
      refine WO.cons (SV.loadM (by assumption) rfl (by exact Hp.up_same) (by rfl) ?_) (by decide)
      refine WO.cons (SV.mul64 rfl rfl (by omega) ?_) (by decide)
      refine WO.cons (SV.sub64 rfl rfl (by omega) ?_) (by decide)
      refine WO.cons (SV.mul64 rfl rfl (by omega) ?_) (by decide)
      refine WO.cons (SV.add64 rfl rfl (by omega) ?_) (by decide)
      refine WO.cons (SV.assignV (by constructor) ?_) (by decide)
      refine WO.nil ?_
      have x1 : 2 * (e.2.2 - e.1.2) * e.1.1 + (e.2.1 - e.1.1) * (2 * j + 1 - 2 * e.1.2) = leftD e j := rfl
      rw [x1]
      refine WC.seq ?_
      refine WC.region ?_
      refine WO.cons (SV.moveV (by constructor) ?_) (by decide)
      refine WO.cons (SV.moveV (by constructor) ?_) (by decide)
      refine WO.cons (SV.mul64 rfl rfl (by omega) ?_) (by decide)
      refine WO.cons (SV.add64 rfl rfl (by omega) ?_) (by decide)
      refine WO.cons (SV.mul64 rfl rfl (by omega) ?_) (by decide)
      refine WO.cons (SV.assignV (by constructor) ?_) (by decide)
      refine WO.nil ?_
      have x2 : (e.2.2 - e.1.2) * (2 * i + 1) = rightD e i := rfl
      rw [x2]
      have hd1 : decide (0 < e.2.2 - e.1.2) = true := decide_eq_true (by omega)
      have hd2 : decide (e.2.2 - e.1.2 < 0) = false := decide_eq_false (by omega)
      by_cases c2 : leftD e j ≤ rightD e i
      · have hd3 : decide (leftD e j ≤ rightD e i) = true := decide_eq_true c2
        have hw1 : wOne e i j = 1 := by unfold wOne; rw [if_pos c1, if_pos c2]
        refine WC.seq ?_
        refine WC.region ?_
        refine WO.cons (SV.moveV (by constructor) ?_) (by decide)
        refine WO.cons (SV.gtr rfl rfl ?_) (by decide)
        refine WO.cons (SV.moveV (by constructor) ?_) (by decide)
        refine WO.guardY rfl rfl rfl (by assumption) (SV.moveV (by constructor) ?_) (by decide)
        all_goals (refine WO.guardY rfl rfl rfl (by assumption) (SV.moveV (by constructor) ?_) (by decide))
        all_goals (refine WO.guardY rfl rfl rfl (by assumption) (SV.leq rfl rfl ?_) (by decide))
        all_goals (refine WO.cons (SV.pickTV rfl (by assumption) (by constructor) ?_) (by decide))
        all_goals refine WO.cons (SV.moveV (by constructor) ?_) (by decide)
        all_goals (refine WO.guardN rfl rfl rfl (by assumption) ?_ (by decide))
        all_goals (refine WO.guardN rfl rfl rfl (by assumption) ?_ (by decide))
        all_goals (refine WO.guardN rfl rfl rfl (by assumption) ?_ (by decide))
        all_goals (refine WO.guardU rfl rfl rfl ?_ (by decide))
        all_goals (refine WO.guardU rfl rfl rfl ?_ (by decide))
        all_goals (refine WO.guardU rfl rfl rfl ?_ (by decide))
        all_goals (refine WO.guardN rfl rfl rfl (by assumption) ?_ (by decide))
        all_goals (refine WO.cons (SV.pickTV rfl (by assumption) (by constructor) ?_) (by decide))
        all_goals refine WO.nil ?_
        refine WC.condT rfl (by rfl) ?_
        refine WC.region ?_
        refine WO.cons (SV.moveV (by constructor) ?_) (by decide)
        refine WO.cons (SV.moveV (by constructor) ?_) (by decide)
        refine WO.cons (SV.add64 rfl rfl (by omega) ?_) (by decide)
        refine WO.cons (SV.assignV (by constructor) ?_) (by decide)
        refine WO.nil ?_
        refine WC.region ?_
        refine WO.cons (SV.add64 rfl rfl (by omega) ?_) (by decide)
        refine WO.cons (SV.moveV (by constructor) ?_) (by decide)
        refine WO.nil ?_
        exact ⟨rfl, (k + 1, w + 1), ⟨rfl, rfl, rfl, rfl, rfl, by show some (Value.int .i64 ((k : Int) + 1)) = _; rfl, trivial⟩, ⟨by omega, hsub hM4_3, by dsimp only; omega, by dsimp only; rw [← e1, hw1]; omega, by dsimp only; omega, by dsimp only; omega⟩, by dsimp only; omega⟩
      · have hd3 : decide (leftD e j ≤ rightD e i) = false := decide_eq_false c2
        have hw1 : wOne e i j = 0 := by unfold wOne; rw [if_pos c1, if_neg c2]
        refine WC.seq ?_
        refine WC.region ?_
        refine WO.cons (SV.moveV (by constructor) ?_) (by decide)
        refine WO.cons (SV.gtr rfl rfl ?_) (by decide)
        refine WO.cons (SV.moveV (by constructor) ?_) (by decide)
        refine WO.guardY rfl rfl rfl (by assumption) (SV.moveV (by constructor) ?_) (by decide)
        all_goals (refine WO.guardY rfl rfl rfl (by assumption) (SV.moveV (by constructor) ?_) (by decide))
        all_goals (refine WO.guardY rfl rfl rfl (by assumption) (SV.leq rfl rfl ?_) (by decide))
        all_goals (refine WO.cons (SV.pickTV rfl (by assumption) (by constructor) ?_) (by decide))
        all_goals refine WO.cons (SV.moveV (by constructor) ?_) (by decide)
        all_goals (refine WO.guardY rfl rfl rfl (by assumption) (SV.moveV (by constructor) ?_) (by decide))
        all_goals (refine WO.guardY rfl rfl rfl (by assumption) (SV.lss rfl rfl ?_) (by decide))
        all_goals (refine WO.guardY rfl rfl rfl (by assumption) (SV.moveV (by constructor) ?_) (by decide))
        all_goals (refine WO.guardN rfl rfl rfl (by assumption) ?_ (by decide))
        all_goals (refine WO.guardN rfl rfl rfl (by assumption) ?_ (by decide))
        all_goals (refine WO.guardN rfl rfl rfl (by assumption) ?_ (by decide))
        all_goals (refine WO.guardY rfl rfl rfl (by assumption) (SV.pickFV rfl (by assumption) (by constructor) ?_) (by decide))
        all_goals (refine WO.cons (SV.pickFV rfl (by assumption) (by constructor) ?_) (by decide))
        all_goals refine WO.nil ?_
        refine WC.condF rfl (by rfl) (WC.skip ?_)
        refine WC.region ?_
        refine WO.cons (SV.add64 rfl rfl (by omega) ?_) (by decide)
        refine WO.cons (SV.moveV (by constructor) ?_) (by decide)
        refine WO.nil ?_
        exact ⟨rfl, (k + 1, w), ⟨rfl, rfl, rfl, rfl, rfl, by show some (Value.int .i64 ((k : Int) + 1)) = _; rfl, trivial⟩, ⟨by omega, hsub hM4_3, by dsimp only; omega, by dsimp only; rw [← e1, hw1]; omega, by dsimp only; omega, by dsimp only; omega⟩, by dsimp only; omega⟩
    · rw [if_neg c1] at hb1
      subst hb1
      by_cases c3 : e.2.2 ≤ j ∧ j < e.1.2
      · rw [if_pos c3]
        obtain ⟨⟨o1, o2⟩, o3, o4⟩ := hoke
        obtain ⟨⟨u1, u2⟩, ⟨u3, u4⟩, u5, u6⟩ := left_bd (e := e) (i := i) (j := j) ⟨⟨o1, o2⟩, o3, o4⟩ hi (by omega)
        refine thn_n ?_
        refine WC.seq (WC.seq ?_)
        refine WC.region ?_
        refine WO.cons (SV.moveV (by constructor) ?_) (by decide)
        refine WO.cons (SV.eqlI rfl rfl ?_) (by decide)
        refine WO.nil ?_
        refine WC.condF rfl (by rfl) (WC.skip (WC.seq ?_))
        refine WC.region ?_
        refine WO.cons (SV.fieldAddr rfl ?_) (by decide)
        refine WO.cons (SV.fieldAddr rfl ?_) (by decide)
        refine WO.cons (SV.loadM (by assumption) rfl (by exact Hp.up_same) (by rfl) ?_) (by decide)
        refine WO.cons (SV.fieldAddr rfl ?_) (by decide)
        refine WO.cons (SV.fieldAddr rfl ?_) (by decide)
        refine WO.cons (SV.loadM (by assumption) rfl (by exact Hp.up_same) (by rfl) ?_) (by decide)
        refine WO.cons (SV.sub64 rfl rfl (by omega) ?_) (by decide)
        refine WO.cons (SV.assignV (by constructor) ?_) (by decide)
        refine WO.nil ?_
        refine WC.seq ?_
        refine WC.region ?_
        refine WO.cons (SV.moveV (by constructor) ?_) (by decide)
        refine WO.cons (SV.mul64 rfl rfl (by omega) ?_) (by decide)
        refine WO.cons (SV.fieldAddr rfl ?_) (by decide)
        refine WO.cons (SV.fieldAddr rfl ?_) (by decide)
        refine WO.cons (SV.loadM (by assumption) rfl (by exact Hp.up_same) (by rfl) ?_) (by decide)
        refine WO.cons (SV.mul64 rfl rfl (by omega) ?_) (by decide)
        refine WO.cons (SV.fieldAddr rfl ?_) (by decide)
        refine WO.cons (SV.fieldAddr rfl ?_) (by decide)
        refine WO.cons (SV.loadM (by assumption) rfl (by exact Hp.up_same) (by rfl) ?_) (by decide)
        refine WO.cons (SV.fieldAddr rfl ?_) (by decide)
        refine WO.cons (SV.fieldAddr rfl ?_) (by decide)
        refine WO.cons (SV.loadM (by assumption) rfl (by exact Hp.up_same) (by rfl) ?_) (by decide)
        refine WO.cons (SV.sub64 rfl rfl (by omega) ?_) (by decide)
        refine WO.cons (SV.moveV (by constructor) ?_) (by decide)
        refine WO.cons (SV.mul64 rfl rfl (by omega) ?_) (by decide)
        refine WO.cons (SV.add64 rfl rfl (by omega) ?_) (by decide)
        refine WO.cons (SV.fieldAddr rfl ?_) (by decide)
        refine WO.cons (SV.fieldAddr rfl ?_) (by decide)
        refine WO.cons (SV.loadM (by assumption) rfl (by exact Hp.up_same) (by rfl) ?_) (by decide)
        refine WO.cons (SV.mul64 rfl rfl (by omega) ?_) (by decide)
        refine WO.cons (SV.sub64 rfl rfl (by omega) ?_) (by decide)
        refine WO.cons (SV.mul64 rfl rfl (by omega) ?_) (by decide)
        refine WO.cons (SV.add64 rfl rfl (by omega) ?_) (by decide)
        refine WO.cons (SV.assignV (by constructor) ?_) (by decide)
        refine WO.nil ?_
        have x1 : 2 * (e.2.2 - e.1.2) * e.1.1 + (e.2.1 - e.1.1) * (2 * j + 1 - 2 * e.1.2) = leftD e j := rfl
        rw [x1]
        refine WC.seq ?_
        refine WC.region ?_
        refine WO.cons (SV.moveV (by constructor) ?_) (by decide)
        refine WO.cons (SV.moveV (by constructor) ?_) (by decide)
        refine WO.cons (SV.mul64 rfl rfl (by omega) ?_) (by decide)
        refine WO.cons (SV.add64 rfl rfl (by omega) ?_) (by decide)
        refine WO.cons (SV.mul64 rfl rfl (by omega) ?_) (by decide)
        refine WO.cons (SV.assignV (by constructor) ?_) (by decide)
        refine WO.nil ?_
        have x2 : (e.2.2 - e.1.2) * (2 * i + 1) = rightD e i := rfl
        rw [x2]
        have hd1 : decide (0 < e.2.2 - e.1.2) = false := decide_eq_false (by omega)
        have hd2 : decide (e.2.2 - e.1.2 < 0) = true := decide_eq_true (by omega)
        by_cases c2 : rightD e i ≤ leftD e j
        · have hd3 : decide (rightD e i ≤ leftD e j) = true := decide_eq_true c2
          have hw1 : wOne e i j = -1 := by unfold wOne; rw [if_neg c1, if_pos c3, if_pos c2]
          refine WC.seq ?_
          refine WC.region ?_
          refine WO.cons (SV.moveV (by constructor) ?_) (by decide)
          refine WO.cons (SV.gtr rfl rfl ?_) (by decide)
          refine WO.cons (SV.moveV (by constructor) ?_) (by decide)
          refine WO.guardN rfl rfl rfl (by assumption) ?_ (by decide)
          all_goals (refine WO.guardN rfl rfl rfl (by assumption) ?_ (by decide))
          all_goals (refine WO.guardN rfl rfl rfl (by assumption) ?_ (by decide))
          all_goals (refine WO.cons (SV.pickFV rfl (by assumption) (by constructor) ?_) (by decide))
          all_goals refine WO.cons (SV.moveV (by constructor) ?_) (by decide)
          all_goals (refine WO.guardY rfl rfl rfl (by rfl) (SV.moveV (by constructor) ?_) (by decide))
          all_goals (refine WO.guardY rfl rfl rfl (by rfl) (SV.lss rfl rfl ?_) (by decide))
          all_goals (refine WO.guardY rfl rfl rfl (by rfl) (SV.moveV (by constructor) ?_) (by decide))
          all_goals (refine WO.guardY rfl rfl rfl (by assumption) (SV.moveV (by constructor) ?_) (by decide))
          all_goals (refine WO.guardY rfl rfl rfl (by assumption) (SV.moveV (by constructor) ?_) (by decide))
          all_goals (refine WO.guardY rfl rfl rfl (by assumption) (SV.geq rfl rfl ?_) (by decide))
          all_goals (refine WO.guardY rfl rfl rfl (by rfl) (SV.pickTV rfl (by assumption) (by constructor) ?_) (by decide))
          all_goals (refine WO.cons (SV.pickFV rfl (by rfl) (by constructor) ?_) (by decide))
          all_goals refine WO.nil ?_
          refine WC.condT rfl (by assumption) ?_
          refine WC.region ?_
          refine WO.cons (SV.moveV (by constructor) ?_) (by decide)
          refine WO.cons (SV.moveV (by constructor) ?_) (by decide)
          refine WO.cons (SV.add64 rfl rfl (by omega) ?_) (by decide)
          refine WO.cons (SV.assignV (by constructor) ?_) (by decide)
          refine WO.nil ?_
          refine WC.region ?_
          refine WO.cons (SV.add64 rfl rfl (by omega) ?_) (by decide)
          refine WO.cons (SV.moveV (by constructor) ?_) (by decide)
          refine WO.nil ?_
          exact ⟨rfl, (k + 1, w + -1), ⟨rfl, rfl, rfl, rfl, rfl, by show some (Value.int .i64 ((k : Int) + 1)) = _; rfl, trivial⟩, ⟨by omega, hsub hM4_3, by dsimp only; omega, by dsimp only; rw [← e1, hw1]; omega, by dsimp only; omega, by dsimp only; omega⟩, by dsimp only; omega⟩
        · have hd3 : decide (rightD e i ≤ leftD e j) = false := decide_eq_false c2
          have hw1 : wOne e i j = 0 := by unfold wOne; rw [if_neg c1, if_pos c3, if_neg c2]
          refine WC.seq ?_
          refine WC.region ?_
          refine WO.cons (SV.moveV (by constructor) ?_) (by decide)
          refine WO.cons (SV.gtr rfl rfl ?_) (by decide)
          refine WO.cons (SV.moveV (by constructor) ?_) (by decide)
          refine WO.guardN rfl rfl rfl (by assumption) ?_ (by decide)
          all_goals (refine WO.guardN rfl rfl rfl (by assumption) ?_ (by decide))
          all_goals (refine WO.guardN rfl rfl rfl (by assumption) ?_ (by decide))
          all_goals (refine WO.cons (SV.pickFV rfl (by assumption) (by constructor) ?_) (by decide))
          all_goals refine WO.cons (SV.moveV (by constructor) ?_) (by decide)
          all_goals (refine WO.guardY rfl rfl rfl (by rfl) (SV.moveV (by constructor) ?_) (by decide))
          all_goals (refine WO.guardY rfl rfl rfl (by rfl) (SV.lss rfl rfl ?_) (by decide))
          all_goals (refine WO.guardY rfl rfl rfl (by rfl) (SV.moveV (by constructor) ?_) (by decide))
          all_goals (refine WO.guardY rfl rfl rfl (by assumption) (SV.moveV (by constructor) ?_) (by decide))
          all_goals (refine WO.guardY rfl rfl rfl (by assumption) (SV.moveV (by constructor) ?_) (by decide))
          all_goals (refine WO.guardY rfl rfl rfl (by assumption) (SV.geq rfl rfl ?_) (by decide))
          all_goals (refine WO.guardY rfl rfl rfl (by rfl) (SV.pickTV rfl (by assumption) (by constructor) ?_) (by decide))
          all_goals (refine WO.cons (SV.pickFV rfl (by rfl) (by constructor) ?_) (by decide))
          all_goals refine WO.nil ?_
          refine WC.condF rfl (by assumption) (WC.skip ?_)
          refine WC.region ?_
          refine WO.cons (SV.add64 rfl rfl (by omega) ?_) (by decide)
          refine WO.cons (SV.moveV (by constructor) ?_) (by decide)
          refine WO.nil ?_
          exact ⟨rfl, (k + 1, w), ⟨rfl, rfl, rfl, rfl, rfl, by show some (Value.int .i64 ((k : Int) + 1)) = _; rfl, trivial⟩, ⟨by omega, hsub hM4_3, by dsimp only; omega, by dsimp only; rw [← e1, hw1]; omega, by dsimp only; omega, by dsimp only; omega⟩, by dsimp only; omega⟩
      · rw [if_neg c3]
        have hw1 : wOne e i j = 0 := by unfold wOne; rw [if_neg c1, if_neg c3]
        refine thn_n ?_
        refine WC.seq (WC.seq ?_)
        refine WC.region ?_
        refine WO.cons (SV.moveV (by constructor) ?_) (by decide)
        refine WO.cons (SV.eqlI rfl rfl ?_) (by decide)
        refine WO.nil ?_
        refine WC.condT rfl (by rfl) (WC.exit ?_)
        refine WC.region ?_
        refine WO.cons (SV.add64 rfl rfl (by omega) ?_) (by decide)
        refine WO.cons (SV.moveV (by constructor) ?_) (by decide)
        refine WO.nil ?_
        exact ⟨rfl, (k + 1, w), ⟨rfl, rfl, rfl, rfl, rfl, by show some (Value.int .i64 ((k : Int) + 1)) = _; rfl, trivial⟩, ⟨by omega, hsub hM4_3, by dsimp only; omega, by dsimp only; rw [← e1, hw1]; omega, by dsimp only; omega, by dsimp only; omega⟩, by dsimp only; omega⟩
  · have hz : l.drop k = [] := List.drop_eq_nil_of_le (by omega)
    rw [hz] at e1
    have e1' : w = windD l i j := by rw [← e1]; simp [windD]
    subst e1'
    refine WC.exit (WC.seq ?_)
    refine WC.region ?_
    refine WO.cons (SV.moveV (by constructor) ?_) (by decide)
    refine WO.cons (SV.assignV (by constructor) ?_) (by decide)
    refine WO.nil ?_
    refine WC.ret ?_
    exact fin_one (e := .ret) (v := .int .i64 _) rfl trivial rfl hn1 hM1 ⟨rfl, rfl⟩
end Go.Proofs.Ytmlplblhabdbpaa
