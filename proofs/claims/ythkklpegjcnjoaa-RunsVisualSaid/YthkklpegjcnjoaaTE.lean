/- A part of the proof: rules for walking code over the evaluator, and what the functions that were walked come to: no condition but those that each theorem states. -/
import Derived.Test.YthkklpegjcnjoaaTD
set_option linter.unusedVariables false
set_option linter.unusedSimpArgs false
namespace Go.Proofs.Ythkklpegjcnjoaa
open Go.Ab
variable {X : CallE} {ro : Nat}
set_option maxRecDepth 10000
set_option linter.unusedVariables false
set_option linter.unusedSimpArgs false

def isOwn (c : Int) : Prop := c ≠ 0 ∧ c ≠ 1
instance (c : Int) : Decidable (isOwn c) := inferInstanceAs (Decidable (_ ∧ _))
theorem own_sp {s : St} {H : Hp} {c : Int} (hX : OwnX X) (hM : Models ro s H) : Sp X Try.prog ro 49 [.int .i64 c] s fun v H' => v = .bool (decide (isOwn c)) ∧ H' = H := by
  refine Sp.of_body (hX _ _ _ (by decide) (by decide) (by decide) (by decide)) Try.func49 rfl Try.ntmps49 (by simp) ?_
  refine WC.seq (WC.region ?_)
  refine asO ?_
  refine WO.nil ?_
  refine WC.seq (WC.region ?_)
  refine mvO ?_
  refine cO (SV.neqI rfl rfl ?_)
  refine mvO ?_
  refine WO.guardDT rfl rfl rfl (fun hg1_3 hh1_3 => SV.moveV (by constructor) ?_) (fun hg1_3 hh1_3 => ?_) (by decide)
  all_goals (first | refine gyO (SV.neqI rfl rfl ?_) | refine gnO ?_)
  all_goals (first | refine cO (pT ?_) | refine cO (pF ?_))
  all_goals refine asO ?_
  all_goals refine WO.nil ?_
  all_goals refine WC.ret ?_; refine fin_one (v := .bool _) rfl trivial rfl (Nat.le_refl _) hM ⟨?_, rfl⟩; unfold isOwn; simp [*]

def fillM (x : Int) : Nat → Int → List Int → List Int
  | 0, _, S => S
  | r + 1, j, S => fillM x r (j + 1) (S.set j.toNat x)
theorem fillM_length {x : Int} : ∀ (r : Nat) (j : Int) (S : List Int), (fillM x r j S).length = S.length
  | 0, _, _ => rfl
  | r + 1, j, S => (fillM_length r _ _).trans List.length_set
def scrM (T : List Int) : Nat → Int → Int → List Int → List Int
  | 0, _, _, S => S
  | r + 1, i, last, S =>
    if isOwn (rd T i) then scrM T r (i + 1) (rd T i) ((if last = 0 then fillM (rd T i) i.toNat 0 S else S).set i.toNat (rd T i))
    else scrM T r (i + 1) last (S.set i.toNat last)
theorem scrM_length {T : List Int} : ∀ (r : Nat) (i last : Int) (S : List Int), (scrM T r i last S).length = S.length
  | 0, _, _, _ => rfl
  | r + 1, i, last, S => by
    simp only [scrM]
    split
    · refine (scrM_length r _ _ _).trans (List.length_set.trans ?_)
      split
      · exact fillM_length _ _ _
      · rfl
    · exact (scrM_length r _ _ _).trans List.length_set
def scriptsM (Y : Exts) (C : List Int) : List Int := scrM (C.map Y.LS) C.length 0 0 (List.replicate C.length 0)
theorem scriptsM_length {Y : Exts} {C : List Int} : (scriptsM Y C).length = C.length := (scrM_length _ _ _ _).trans List.length_replicate

set_option maxHeartbeats 4000000 in
theorem scripts_sp {Y : Exts} {s : St} {H : Hp} {c cc : Nat} {C : List Int} (hX : ExtOk X ro Y) (hM : Models ro s H) (hc : H c = some (.row 1 (C.map (.int .i64)))) (hbig : C.length ≤ 16384) :
    Sp X Try.prog ro 26 [.slice (some ⟨c, 0, none⟩) C.length cc] s fun v H' => ∃ a, v = .slice (some ⟨a, 0, none⟩) C.length C.length ∧ (∀ ν o, H ν = some o → ν ≠ a) ∧ H' = H.up a (.row 1 ((scriptsM Y C).map (.int .i64))) := by
  have hX0 := hX.own
  refine Sp.of_body (hX.own _ _ _ (by decide) (by decide) (by decide) (by decide)) Try.func26 rfl Try.ntmps26 (by simp) ?_
  refine WC.seq (WC.region ?_)
  refine asO ?_
  refine WO.nil ?_
  refine WC.seq (WC.region ?_)
  refine mvO ?_
  refine cO (SV.len rfl rfl ?_)
  refine cO (SV.makeSliceM (by assumption) rfl rfl (by refine ⟨?_, ?_, ?_, ?_, rfl, by decide⟩ <;> omega) (fun a1_2 s1_2 hf1_2 hne1_2 hn1_2 hM1_2 => ?_))
  refine asO ?_
  refine WO.nil ?_
  rw [rep_ints] at hM1_2
  rw [Int.toNat_natCast] at hM1_2 ⊢
  refine WC.seq (WC.region ?_)
  refine asO ?_
  refine WO.nil ?_
  refine WC.seq (WC.seq (WC.region ?_))
  refine mvO ?_
  refine cO (SV.len rfl rfl ?_)
  refine mvO ?_
  refine WO.nil ?_
  refine WC.block ?_
  generalize hRES : scriptsM Y C = RES
  refine WC.loop (D := Int × Int × List Int) (fun x => [(0, .slice (some ⟨c, 0, none⟩) C.length cc), (2, .slice none 0 0), (3, .slice (some ⟨a1_2, 0, none⟩) C.length C.length), (4, .int .i64 x.2.1), (12, .int .i64 C.length), (13, .int .i64 x.1)])
    (fun x s1 => s.next ≤ s1.next ∧ 0 ≤ x.1 ∧ x.1 ≤ C.length ∧ x.2.2.length = C.length ∧ scrM (C.map Y.LS) (C.length - x.1.toNat) x.1 x.2.1 x.2.2 = RES ∧ Models ro s1 (H.up a1_2 (.row 1 (x.2.2.map (.int .i64)))))
    (fun x => C.length - x.1.toNat) (0, 0, List.replicate C.length 0) ?_ ⟨by omega, Int.le_refl _, by simp, List.length_replicate, hRES, hM1_2⟩ ?_
  · exact ⟨rfl, rfl, rfl, rfl, rfl, rfl, trivial⟩
  rintro ⟨i, last, S⟩ g s1 ⟨hn1, hi0, hi1, hS, hres, hM1⟩
  dsimp only at hn1 hi0 hi1 hS hres hM1 ⊢
  have hc1 : (H.up a1_2 (.row 1 (S.map (.int .i64)))) c = some (.row 1 (C.map (.int .i64))) := Hp.up_fresh hne1_2 hc
  have ha1 : (H.up a1_2 (.row 1 (S.map (.int .i64)))) a1_2 = some (.row 1 (S.map (.int .i64))) := Hp.up_same
  refine WC.seq (WC.region ?_)
  refine cO (SV.lss rfl rfl ?_)
  refine WO.nil ?_
  refine WC.seq ?_
  refine WC.condD rfl (fun hlt hltb => ?_) (fun hlt hltb => ?_)
  · rw [show C.length - i.toNat = (C.length - (i + 1).toNat) + 1 by omega] at hres
    simp only [scrM] at hres
    have eT : rd (C.map Y.LS) i = Y.LS (rd C i) := by
      unfold rd
      rw [List.getD_eq_getElem?_getD, List.getElem?_map, List.getD_eq_getElem?_getD, List.getElem?_eq_getElem (by omega)]; rfl
    rw [eT] at hres
    refine WC.skip (WC.seq (WC.block (WC.seq (WC.region ?_))))
    refine mvO ?_
    refine asO ?_
    refine WO.nil ?_
    refine WC.seq (WC.region ?_)
    refine mvO ?_
    refine mvO ?_
    refine cO (SV.indexAddr rfl rfl (by omega) ?_)
    refine cO (ldI ?_)
    refine cO ?_
    refine SV.callM rfl rfl (hX.look _ _ _ hM1) ?_
    rintro v s2 H2 hn2 hM2 ⟨rfl, rfl⟩
    refine cO (SV.field rfl rfl ?_)
    refine asO ?_
    refine WO.nil ?_
    generalize Y.LS (rd C i) = sc at hres ⊢
    refine WC.seq (WC.seq (WC.region ?_))
    refine mvO ?_
    refine cO ?_
    refine SV.callM rfl rfl (own_sp hX0 hM2) ?_
    rintro v s3 H3 hn3 hM3 ⟨rfl, rfl⟩
    refine WO.nil ?_
    refine WC.condD rfl (fun how howb => ?_) (fun how howb => ?_)
    · rw [if_pos how] at hres
      refine WC.seq (WC.seq (WC.region ?_))
      refine mvO ?_
      refine cO (SV.eqlI rfl rfl ?_)
      refine WO.nil ?_
      refine WC.condD rfl (fun h0 h0b => ?_) (fun h0 h0b => ?_)
      · rw [if_pos h0] at hres
        refine WC.seq (WC.region ?_)
        refine mvO ?_
        refine mvO ?_
        refine WO.nil ?_
        refine WC.block ?_
        generalize hFI : fillM sc i.toNat 0 S = FI at hres
        have hFl : FI.length = C.length := by rw [← hFI]; exact (fillM_length _ _ _).trans hS
        refine WC.loop (D := Int × List Int) (fun x => [(0, .slice (some ⟨c, 0, none⟩) C.length cc), (2, .slice none 0 0), (3, .slice (some ⟨a1_2, 0, none⟩) C.length C.length), (5, .int .i64 i), (6, .int .i64 sc), (12, .int .i64 C.length), (13, .int .i64 i), (26, .int .i64 i), (27, .int .i64 x.1)])
          (fun x s4 => s.next ≤ s4.next ∧ 0 ≤ x.1 ∧ x.1 ≤ i ∧ x.2.length = C.length ∧ fillM sc (i - x.1).toNat x.1 x.2 = FI ∧ Models ro s4 (H.up a1_2 (.row 1 (x.2.map (.int .i64)))))
          (fun x => (i - x.1).toNat) (0, S) ?_ ⟨by omega, Int.le_refl _, hi0, hS, by rw [← hFI, Int.sub_zero], hM3⟩ ?_
        · exact ⟨rfl, rfl, rfl, rfl, rfl, rfl, rfl, rfl, rfl, trivial⟩
        rintro ⟨j, S4⟩ g4 s4 ⟨hn4, hj0, hj1, hS4, hres4, hM4⟩
        dsimp only at hn4 hj0 hj1 hS4 hres4 hM4 ⊢
        have ha4 : (H.up a1_2 (.row 1 (S4.map (.int .i64)))) a1_2 = some (.row 1 (S4.map (.int .i64))) := Hp.up_same
        refine WC.seq (WC.region ?_)
        refine cO (SV.lss rfl rfl ?_)
        refine WO.nil ?_
        refine WC.seq ?_
        refine WC.condD rfl (fun hjl hjlb => ?_) (fun hjl hjlb => ?_)
        · rw [show (i - j).toNat = (i - (j + 1)).toNat + 1 by omega] at hres4
          simp only [fillM] at hres4
          refine WC.skip (WC.seq (WC.block (WC.seq (WC.region ?_))))
          refine mvO ?_
          refine asO ?_
          refine WO.nil ?_
          refine WC.region ?_
          refine mvO ?_
          refine mvO ?_
          refine mvO ?_
          refine cO (SV.indexAddr rfl rfl (by omega) ?_)
          refine WO.cons0 (SV.storeV (by assumption) rfl (by constructor) (by assumption) (by (simp only [List.length_map]; omega)) (fun s12_4 hn12_4 hM12_4 => ?_))
          refine WO.nil ?_
          rw [ints_set (by omega) (by omega), Hp.up_up] at hM12_4
          refine WC.region ?_
          refine cO (adI ?_)
          refine mvO ?_
          refine WO.nil ?_
          exact ⟨rfl, (j + 1, _), ⟨rfl, rfl, rfl, rfl, rfl, rfl, rfl, rfl, rfl, trivial⟩, ⟨by omega, by dsimp only; omega, by dsimp only; omega, List.length_set.trans hS4, hres4, hM12_4⟩, by dsimp only; omega⟩
        · rw [show (i - j).toNat = 0 by omega] at hres4
          simp only [fillM] at hres4
          rw [← hres4] at hres
          clear hS ha1
          have hS := hS4
          refine WC.exit ?_
          refine WC.region ?_
          refine mvO ?_
          refine asO ?_
          refine WO.nil ?_
          refine WC.region ?_
          refine mvO ?_
          refine mvO ?_
          refine mvO ?_
          refine cO (SV.indexAddr rfl rfl (by omega) ?_)
          refine WO.cons0 (SV.storeV (by assumption) rfl (by constructor) (by assumption) (by (simp only [List.length_map]; omega)) (fun s15_4 hn15_4 hM15_4 => ?_))
          refine WO.nil ?_
          rw [ints_set (by omega) (by omega), Hp.up_up] at hM15_4
          refine WC.region ?_
          refine cO (adI ?_)
          refine mvO ?_
          refine WO.nil ?_
          exact ⟨rfl, (i + 1, sc, _), ⟨rfl, rfl, rfl, rfl, rfl, rfl, trivial⟩, ⟨by omega, by dsimp only; omega, by dsimp only; omega, List.length_set.trans (by exact hS), hres, hM15_4⟩, by dsimp only; omega⟩
      · rw [if_neg h0] at hres
        refine WC.skip (WC.region ?_)
        refine mvO ?_
        refine asO ?_
        refine WO.nil ?_
        refine WC.region ?_
        refine mvO ?_
        refine mvO ?_
        refine mvO ?_
        refine cO (SV.indexAddr rfl rfl (by omega) ?_)
        refine WO.cons0 (SV.storeV (by assumption) rfl (by constructor) (by assumption) (by (simp only [List.length_map]; omega)) (fun s15_4 hn15_4 hM15_4 => ?_))
        refine WO.nil ?_
        rw [ints_set (by omega) (by omega), Hp.up_up] at hM15_4
        refine WC.region ?_
        refine cO (adI ?_)
        refine mvO ?_
        refine WO.nil ?_
        exact ⟨rfl, (i + 1, sc, _), ⟨rfl, rfl, rfl, rfl, rfl, rfl, trivial⟩, ⟨by omega, by dsimp only; omega, by dsimp only; omega, List.length_set.trans (by exact hS), hres, hM15_4⟩, by dsimp only; omega⟩
    · rw [if_neg how] at hres
      refine WC.skip (WC.region ?_)
      refine mvO ?_
      refine mvO ?_
      refine mvO ?_
      refine cO (SV.indexAddr rfl rfl (by omega) ?_)
      refine WO.cons0 (SV.storeV (by assumption) rfl (by constructor) (by assumption) (by (simp only [List.length_map]; omega)) (fun s15_4 hn15_4 hM15_4 => ?_))
      refine WO.nil ?_
      rw [ints_set (by omega) (by omega), Hp.up_up] at hM15_4
      refine WC.region ?_
      refine cO (adI ?_)
      refine mvO ?_
      refine WO.nil ?_
      exact ⟨rfl, (i + 1, last, _), ⟨rfl, rfl, rfl, rfl, rfl, rfl, trivial⟩, ⟨by omega, by dsimp only; omega, by dsimp only; omega, List.length_set.trans (by exact hS), hres, hM15_4⟩, by dsimp only; omega⟩
  · rw [show C.length - i.toNat = 0 by omega] at hres
    simp only [scrM] at hres
    refine WC.exit (WC.seq ?_)
    refine WC.region ?_
    refine mvO ?_
    refine asO ?_
    refine WO.nil ?_
    refine WC.ret ?_
    exact fin_one (e := .ret) (v := .slice _ _ _) rfl trivial rfl hn1 hM1 ⟨a1_2, rfl, hne1_2, by rw [hres]⟩
end Go.Proofs.Ythkklpegjcnjoaa

namespace Go.Proofs.Ythkklpegjcnjoaa
open Go.Ab
variable {X : CallE} {ro : Nat}
set_option maxRecDepth 10000
set_option linter.unusedVariables false
set_option linter.unusedSimpArgs false

/-- A run: from, to, level, script. -/
structure RunE where
  (f t l s : Int)
def enc4 (e : RunE) : List Value := [.int .i64 e.f, .int .i64 e.t, .int .i64 e.l, .int .i64 e.s]
theorem enc4_len : ∀ e, (enc4 e).length = 4 := fun _ => rfl
def splitStep (L S : List Int) (i : Int) (R : List RunE) : List RunE :=
  match R.getLast? with
  | some r => if r.l = rd L i ∧ r.s = rd S i then R.dropLast ++ [⟨r.f, i + 1, r.l, r.s⟩] else R ++ [⟨i, i + 1, rd L i, rd S i⟩]
  | none => [⟨i, i + 1, rd L i, rd S i⟩]
def splitM (L S : List Int) : Nat → Int → List RunE → List RunE
  | 0, _, R => R
  | n + 1, i, R => splitM L S n (i + 1) (splitStep L S i R)
structure SplI (ro : Nat) (s1 : St) (H H1 : Hp) (v : Value) (i : Int) (R : List RunE) : Prop where
  md : Models ro s1 H1
  kp : ∀ ν o, H ν = some o → H1 ν = some o
  sl : SlO H1 v 4 R.length (R.flatMap enc4)
  no : ∀ ν o, H ν = some o → baseV v ≠ some ν
  ln : (R.length : Int) ≤ i
theorem src4 {H : Hp} {a es c : Nat} {e : RunE} (h : H a = some (.row es (enc4 e))) : Src Try.prog ro H (.slice (some ⟨a, 0, none⟩) 1 c) 4 1 (enc4 e) :=
  Src.row h rfl rfl (fun i v hv => by rw [Nat.zero_add]; exact hv)
theorem SplI.push {s1 s2 : St} {H H1 H2 : Hp} {v v' : Value} {i : Int} {R : List RunE} {a : Nat} {x : Go.Ab.Obj} {e : RunE} (h : SplI ro s1 H H1 v i R) (ha : ∀ ν o, H1 ν = some o → ν ≠ a) (hM : Models ro s2 H2) (hv : SlO H2 v' 4 (R.length + 1) (R.flatMap enc4 ++ enc4 e))
    (hk : KeptBut (H1.up a x) H2 v) (hn : NewOr (H1.up a x) v v') : SplI ro s2 H H2 v' (i + 1) (R ++ [e]) where
  md := hM
  kp := fun ν o e => hk ν o (Hp.up_ne (ha ν o (h.kp ν o e)) (h.kp ν o e)) (h.no ν o e)
  sl := by simpa [List.flatMap_append] using hv
  no := fun ν o e e2 => by
    rcases hn ν e2 with e3 | e3
    · exact h.no ν o e e3
    · rw [Hp.up_ne (ha ν o (h.kp ν o e)) (h.kp ν o e)] at e3; cases e3
  ln := by have := h.ln; rw [List.length_append, List.length_singleton]; omega
theorem SplI.last {s1 s2 : St} {H H1 : Hp} {ν c : Nat} {i : Int} {R : List RunE} {r : RunE} {ws : List Value} {x : Int} (h : SplI ro s1 H H1 (.slice (some ⟨ν, 0, none⟩) (R ++ [r]).length c) i (R ++ [r])) (hν : H1 ν = some (.row 4 ws)) (hl : ws.length = c * 4) (hnc : (R ++ [r]).length ≤ c)
    (htk : ws.take ((R ++ [r]).length * 4) = (R ++ [r]).flatMap enc4) (hM : Models ro s2 (H1.up ν (.row 4 (ws.set (R.length * 4 + 1) (.int .i64 x))))) : SplI ro s2 H (H1.up ν (.row 4 (ws.set (R.length * 4 + 1) (.int .i64 x)))) (.slice (some ⟨ν, 0, none⟩) (R ++ [r]).length c) (i + 1) (R ++ [⟨r.f, x, r.l, r.s⟩]) where
  md := hM
  kp := fun μ o e => Hp.up_ne (fun e2 => h.no μ o e (by rw [e2]; rfl)) (h.kp μ o e)
  sl := by
    refine .inr ⟨ν, c, _, by simp, Hp.up_same, by rw [List.length_set]; exact hl, by simpa using hnc, ?_⟩
    have e1 : (R ++ [(⟨r.f, x, r.l, r.s⟩ : RunE)]).length = (R ++ [r]).length := by simp
    rw [e1, List.take_set, htk, List.flatMap_append, List.flatMap_append, List.set_append_right _ _ (by rw [flat_length enc4 4 enc4_len]; omega), flat_length enc4 4 enc4_len, show R.length * 4 + 1 - R.length * 4 = 1 by omega]
    rfl
  no := h.no
  ln := by have := h.ln; rw [List.length_append, List.length_singleton] at *; omega

set_option maxHeartbeats 4000000 in
theorem split_sp {Y : Exts} {s : St} {H : Hp} {c cc : Nat} {C : List Int} {b : Int} (hX : ExtOk X ro Y) (hM : Models ro s H) (hc : H c = some (.row 1 (C.map (.int .i64)))) (hb : levelsBad C.length b = 0) :
    Sp X Try.prog ro 29 [.slice (some ⟨c, 0, none⟩) C.length cc, .int .i64 b] s fun v H' => ∃ w, v = .tuple #[w, .int .i64 0] ∧ (∀ ν o, H ν = some o → H' ν = some o ∧ baseV w ≠ some ν) ∧
      SlO H' w 4 (splitM (levelsM Y C b) (scriptsM Y C) C.length 0 []).length ((splitM (levelsM Y C b) (scriptsM Y C) C.length 0 []).flatMap enc4) := by
  have hX0 := hX.own
  have hbn : (-1 ≤ b ∧ b ≤ 1) ∧ C.length ≤ 16384 := by
    unfold levelsBad at hb
    split at hb
    · cases hb
    · split at hb
      · cases hb
      · omega
  refine Sp.of_body (hX.own _ _ _ (by decide) (by decide) (by decide) (by decide)) Try.func29 rfl Try.ntmps29 (by simp) ?_
  refine WC.seq (WC.region ?_)
  refine asO ?_
  refine asO ?_
  refine WO.nil ?_
  refine WC.seq (WC.region ?_)
  refine mvO ?_
  refine mvO ?_
  refine cO ?_
  refine SV.callM rfl rfl (levels_sp hX hM hc hbn.1 hbn.2) ?_
  rintro v s1 H1 hn1 hM1 ⟨l, cl, rfl, hkp1, hl1, hLl⟩
  refine mvO ?_
  refine cO (SV.extract rfl rfl ?_)
  refine cO (SV.extract rfl rfl ?_)
  refine asO ?_
  refine asO ?_
  refine WO.nil ?_
  refine WC.seq (WC.seq (WC.region ?_))
  refine mvO ?_
  refine cO (SV.neqI rfl rfl ?_)
  refine WO.nil ?_
  refine WC.condF rfl (by rfl) (WC.skip (WC.seq ?_))
  have hc1 := (hkp1 _ _ hc).1
  refine WC.region ?_
  refine mvO ?_
  refine cO ?_
  refine SV.callM rfl rfl (scripts_sp hX hM1 hc1 hbn.2) ?_
  rintro v s2 H2 hn2 hM2 ⟨a, rfl, hane, rfl⟩
  refine asO ?_
  refine WO.nil ?_
  have hSl : (scriptsM Y C).length = C.length := scriptsM_length
  generalize levelsM Y C b = L at hl1 hLl
  generalize scriptsM Y C = S at hM2 hSl
  have hl2 : (H1.up a (.row 1 (S.map (.int .i64)))) l = some (.row 1 (L.map (.int .i64))) := Hp.up_fresh hane hl1
  have ha2 : (H1.up a (.row 1 (S.map (.int .i64)))) a = some (.row 1 (S.map (.int .i64))) := Hp.up_same
  have hkp2 : ∀ ν o, H ν = some o → (H1.up a (.row 1 (S.map (.int .i64)))) ν = some o := fun ν o e => Hp.up_fresh hane (hkp1 ν o e).1
  generalize H1.up a (.row 1 (S.map (.int .i64))) = H2 at hM2 hl2 ha2 hkp2
  refine WC.seq (WC.region ?_)
  refine asO ?_
  refine WO.nil ?_
  refine WC.seq (WC.seq (WC.region ?_))
  refine mvO ?_
  refine cO (SV.len rfl rfl ?_)
  refine mvO ?_
  refine WO.nil ?_
  refine WC.block ?_
  generalize hRES : splitM L S C.length 0 [] = RES
  refine WC.loop (D := Int × Value × List RunE) (fun x => [(0, .slice (some ⟨c, 0, none⟩) C.length cc), (4, .slice none 0 0), (5, .int .i64 0), (6, .slice (some ⟨l, 0, none⟩) C.length cl), (8, .slice (some ⟨a, 0, none⟩) C.length C.length), (9, x.2.1), (24, .int .i64 C.length), (25, .int .i64 x.1)])
    (fun x s3 => s.next ≤ s3.next ∧ 0 ≤ x.1 ∧ x.1 ≤ C.length ∧ splitM L S (C.length - x.1.toNat) x.1 x.2.2 = RES ∧ ∃ H3, SplI ro s3 H2 H3 x.2.1 x.1 x.2.2)
    (fun x => C.length - x.1.toNat) (0, .slice none 0 0, []) ?_ ⟨by omega, Int.le_refl _, by simp, hRES, H2, { md := hM2, kp := fun _ _ h => h, sl := .inl ⟨rfl, rfl, rfl⟩, no := fun _ _ _ h => (by cases h), ln := by simp }⟩ ?_
  · exact ⟨rfl, rfl, rfl, rfl, rfl, rfl, rfl, rfl, trivial⟩
  rintro ⟨i, v, R⟩ g s3 ⟨hn3, hi0, hi1, hres, H3, hI⟩
  dsimp only at hn3 hi0 hi1 hres hI ⊢
  have hM3 := hI.md
  have hl3 := hI.kp _ _ hl2
  have ha3 := hI.kp _ _ ha2
  have hsl := hI.sl
  have hln := hI.ln
  refine WC.seq (WC.region ?_)
  refine cO (SV.lss rfl rfl ?_)
  refine WO.nil ?_
  refine WC.seq ?_
  refine WC.condD rfl (fun hlt hltb => ?_) (fun hlt hltb => ?_)
  · rw [show C.length - i.toNat = (C.length - (i + 1).toNat) + 1 by omega] at hres
    simp only [splitM] at hres
    refine WC.skip (WC.seq (WC.block (WC.seq (WC.region ?_))))
    refine mvO ?_
    refine asO ?_
    refine WO.nil ?_
    refine WC.seq (WC.region ?_)
    refine cO (SV.move ?_)
    refine cO (SV.lenO rfl rfl (by assumption) ?_)
    refine cO (sbI ?_)
    refine asO ?_
    refine WO.nil ?_
    rcases List.eq_nil_or_concat R with rfl | ⟨R0, r, hR⟩
    · have e1 : splitStep L S i [] = [] ++ [⟨i, i + 1, rd L i, rd S i⟩] := rfl
      rw [e1] at hres
      refine WC.seq ?_
      refine WC.dr [0, 1, 2, 3, 4, 5, 6, 7, 8, 9, 10, 11, 12, 13, 14, 15, 16, 17, 18, 19, 20, 21, 22, 23, 24, 25] ?_
      refine mvD ?_
      refine cD (SV.geq rfl rfl ?_)
      refine mvD ?_
      refine WD.guardN rfl rfl rfl (by rfl) ?_ (by decide)
      all_goals refine WD.guardN rfl rfl rfl (by rfl) ?_ (by decide)
      all_goals refine WD.guardN rfl rfl rfl (by rfl) ?_ (by decide)
      all_goals refine WD.guardN rfl rfl rfl (by rfl) ?_ (by decide)
      all_goals refine WD.guardN rfl rfl rfl (by rfl) ?_ (by decide)
      all_goals refine WD.guardN rfl rfl rfl (by rfl) ?_ (by decide)
      all_goals refine WD.guardN rfl rfl rfl (by rfl) ?_ (by decide)
      all_goals refine WD.guardN rfl rfl rfl (by rfl) ?_ (by decide)
      all_goals refine WD.guardN rfl rfl rfl (by rfl) ?_ (by decide)
      all_goals refine WD.guardN rfl rfl rfl (by rfl) ?_ (by decide)
      all_goals refine cD (SV.pickFV rfl (by rfl) (by constructor) ?_)
      all_goals refine mvD ?_
      all_goals refine WD.guardN rfl rfl rfl (by rfl) ?_ (by decide)
      all_goals refine WD.guardN rfl rfl rfl (by rfl) ?_ (by decide)
      all_goals refine WD.guardN rfl rfl rfl (by rfl) ?_ (by decide)
      all_goals refine WD.guardN rfl rfl rfl (by rfl) ?_ (by decide)
      all_goals refine WD.guardN rfl rfl rfl (by rfl) ?_ (by decide)
      all_goals refine WD.guardN rfl rfl rfl (by rfl) ?_ (by decide)
      all_goals refine WD.guardN rfl rfl rfl (by rfl) ?_ (by decide)
      all_goals refine WD.guardN rfl rfl rfl (by rfl) ?_ (by decide)
      all_goals refine WD.guardN rfl rfl rfl (by rfl) ?_ (by decide)
      all_goals refine WD.guardN rfl rfl rfl (by rfl) ?_ (by decide)
      all_goals refine cD (SV.pickFV rfl (by rfl) (by constructor) ?_)
      all_goals refine WD.nil ?_
      refine WC.condF rfl (by rfl) ?_
      refine WC.dr [0, 1, 2, 3, 4, 5, 6, 7, 8, 9, 10, 11, 12, 13, 14, 15] ?_
      refine cD (SV.move ?_)
      refine mvD ?_
      refine mvD ?_
      refine cD (adI ?_)
      refine mvD ?_
      refine mvD ?_
      refine cD (SV.indexAddr rfl rfl (by omega) ?_)
      refine cD (ldI ?_)
      refine mvD ?_
      refine mvD ?_
      refine cD (SV.indexAddr rfl rfl (by omega) ?_)
      refine cD (ldI ?_)
      refine cD (SV.build rfl ?_)
      refine cD (SV.buildSliceM (by assumption) rfl rfl (fun a12_13 s12_13 hf12_13 hne12_13 hn12_13 hM12_13 => ?_))
      refine cD ?_
      have hv12 : SlO (H3.up a12_13 (.row 4 (enc4 ⟨i, i + 1, rd L i, rd S i⟩))) (v) 4 ([]).length (([]).flatMap enc4) := hsl.up (fun h => by obtain ⟨o, ho⟩ := hsl.base_some h; exact hne12_13 _ _ ho rfl)
      refine SV.appendM (t := 40) (u := 40) (e := 48) (e' := 48) (sz := 4) (sz' := 4) (n := ([]).length) (m := 1) (vs := ([]).flatMap enc4) (xs := enc4 ⟨i, i + 1, rd L i, rd S i⟩) rfl (by assumption) rfl rfl hv12 (src4 Hp.up_same) rfl (by omega) (fun v8 s8 H8 hn8 hM8 hv8 hk8 hnew8 _ => ?_)
      refine cD (SV.assign ?_)
      refine WD.nil ?_
      refine WC.region ?_
      refine cO (adI ?_)
      refine mvO ?_
      refine WO.nil ?_
      exact ⟨rfl, (i + 1, v8, [] ++ [⟨i, i + 1, rd L i, rd S i⟩]), ⟨rfl, rfl, rfl, rfl, rfl, rfl, rfl, rfl, trivial⟩, ⟨by omega, by dsimp only; omega, by dsimp only; omega, hres, _, hI.push hne12_13 hM8 hv8 hk8 hnew8⟩, by dsimp only; omega⟩
    · rw [List.concat_eq_append] at hR
      subst hR
      have hgb : decide (0 ≤ ((R0 ++ [r]).length : Int) - 1) = true := decide_eq_true (by rw [List.length_append, List.length_singleton]; omega)
      have hle : (R0 ++ [r]).length = R0.length + 1 := by simp
      have e1 : splitStep L S i (R0 ++ [r]) = if r.l = rd L i ∧ r.s = rd S i then R0 ++ [⟨r.f, i + 1, r.l, r.s⟩] else (R0 ++ [r]) ++ [⟨i, i + 1, rd L i, rd S i⟩] := by unfold splitStep; simp
      rw [e1] at hres
      obtain ⟨ν, cv, ws, rfl, hν, hwl, hnc, htk, hat⟩ := hsl.at enc4_len rfl (by omega)
      have hw2 : ws[0 + (((R0 ++ [r]).length : Int) - 1).toNat * 4 + 2]? = some (.int .i64 r.l) := by
        have := hat R0.length (by omega) 2 (.int .i64 r.l) (by simp [enc4])
        rw [show 0 + (((R0 ++ [r]).length : Int) - 1).toNat * 4 + 2 = R0.length * 4 + 2 by omega]; exact this
      have hw3 : ws[0 + (((R0 ++ [r]).length : Int) - 1).toNat * 4 + 3]? = some (.int .i64 r.s) := by
        have := hat R0.length (by omega) 3 (.int .i64 r.s) (by simp [enc4])
        rw [show 0 + (((R0 ++ [r]).length : Int) - 1).toNat * 4 + 3 = R0.length * 4 + 3 by omega]; exact this
      refine WC.seq ?_
      refine WC.dr [0, 1, 2, 3, 4, 5, 6, 7, 8, 9, 10, 11, 12, 13, 14, 15, 16, 17, 18, 19, 20, 21, 22, 23, 24, 25] ?_
      refine mvD ?_
      refine cD (SV.geq rfl rfl ?_)
      refine mvD ?_
      refine gyD (SV.moveV (by constructor) ?_)
      all_goals refine gyD (SV.moveV (by constructor) ?_)
      all_goals refine gyD (SV.indexAddr rfl rfl (by omega) ?_)
      all_goals refine gyD (SV.fieldAddr rfl ?_)
      all_goals refine gyD (SV.loadM (by assumption) rfl (by assumption) (by assumption) ?_)
      all_goals refine gyD (SV.moveV (by constructor) ?_)
      all_goals refine gyD (SV.moveV (by constructor) ?_)
      all_goals refine gyD (SV.indexAddr rfl rfl (by omega) ?_)
      all_goals refine gyD (ldI ?_)
      all_goals refine gyD (SV.eqlI rfl rfl ?_)
      all_goals refine cD (pT ?_)
      all_goals refine mvD ?_
      all_goals refine WD.guardDT rfl rfl rfl (fun hg10_15 hh10_15 => SV.moveV (by constructor) ?_) (fun hg10_15 hh10_15 => ?_) (by decide)
      all_goals (first | refine gyD (SV.moveV (by constructor) ?_) | refine gnD ?_)
      all_goals (first | refine gyD (SV.indexAddr rfl rfl (by omega) ?_) | refine gnD ?_)
      all_goals (first | refine gyD (SV.fieldAddr rfl ?_) | refine gnD ?_)
      all_goals (first | refine gyD (SV.loadM (by assumption) rfl (by assumption) (by assumption) ?_) | refine gnD ?_)
      all_goals (first | refine gyD (SV.moveV (by constructor) ?_) | refine gnD ?_)
      all_goals (first | refine gyD (SV.moveV (by constructor) ?_) | refine gnD ?_)
      all_goals (first | refine gyD (SV.indexAddr rfl rfl (by omega) ?_) | refine gnD ?_)
      all_goals (first | refine gyD (ldI ?_) | refine gnD ?_)
      all_goals (first | refine gyD (SV.eqlI rfl rfl ?_) | refine gnD ?_)
      all_goals (first | refine cD (pT ?_) | refine cD (pF ?_))
      all_goals refine WD.nil ?_
      · skip
        refine WC.condD rfl (fun hs hsb => ?_) (fun hs hsb => ?_)
        · rw [if_pos ⟨by assumption, hs⟩] at hres
          refine WC.region ?_
          refine mvO ?_
          refine mvO ?_
          refine mvO ?_
          refine cO (adI ?_)
          refine cO (SV.indexAddr rfl rfl (by omega) ?_)
          refine cO (SV.fieldAddr rfl ?_)
          refine WO.cons0 (SV.storeV (by assumption) rfl (by constructor) (by assumption) (by (simp; omega)) (fun s11_6 hn11_6 hM11_6 => ?_))
          refine WO.nil ?_
          rw [show 0 + (((R0 ++ [r]).length : Int) - 1).toNat * 4 + 1 = R0.length * 4 + 1 by omega] at hM11_6
          have hI2 := hI.last hν hwl hnc htk hM11_6
          refine WC.region ?_
          refine cO (adI ?_)
          refine mvO ?_
          refine WO.nil ?_
          refine ⟨rfl, (i + 1, .slice (some ⟨ν, 0, none⟩) (R0 ++ [r]).length cv, R0 ++ [⟨r.f, i + 1, r.l, r.s⟩]), ⟨rfl, rfl, rfl, rfl, rfl, rfl, rfl, rfl, trivial⟩, ⟨by omega, by dsimp only; omega, by dsimp only; omega, hres, _, hI2⟩, by dsimp only; omega⟩
        · rw [if_neg (fun h => hs h.2)] at hres
          refine WC.dr [0, 1, 2, 3, 4, 5, 6, 7, 8, 9, 10, 11, 12, 13, 14, 15] ?_
          refine mvD ?_
          refine mvD ?_
          refine mvD ?_
          refine cD (adI ?_)
          refine mvD ?_
          refine mvD ?_
          refine cD (SV.indexAddr rfl rfl (by omega) ?_)
          refine cD (ldI ?_)
          refine mvD ?_
          refine mvD ?_
          refine cD (SV.indexAddr rfl rfl (by omega) ?_)
          refine cD (ldI ?_)
          refine cD (SV.build rfl ?_)
          refine cD (SV.buildSliceM (by assumption) rfl rfl (fun a12_13 s12_13 hf12_13 hne12_13 hn12_13 hM12_13 => ?_))
          refine cD ?_
          have hv12 : SlO (H3.up a12_13 (.row 4 (enc4 ⟨i, i + 1, rd L i, rd S i⟩))) (.slice (some ⟨ν, 0, none⟩) (R0 ++ [r]).length cv) 4 (R0 ++ [r]).length ((R0 ++ [r]).flatMap enc4) := hsl.up (fun h => by obtain ⟨o, ho⟩ := hsl.base_some h; exact hne12_13 _ _ ho rfl)
          refine SV.appendM (t := 40) (u := 40) (e := 48) (e' := 48) (sz := 4) (sz' := 4) (n := (R0 ++ [r]).length) (m := 1) (vs := (R0 ++ [r]).flatMap enc4) (xs := enc4 ⟨i, i + 1, rd L i, rd S i⟩) rfl (by assumption) rfl rfl hv12 (src4 Hp.up_same) rfl (by omega) (fun v8 s8 H8 hn8 hM8 hv8 hk8 hnew8 _ => ?_)
          refine cD (SV.assign ?_)
          refine WD.nil ?_
          refine WC.region ?_
          refine cO (adI ?_)
          refine mvO ?_
          refine WO.nil ?_
          exact ⟨rfl, (i + 1, v8, R0 ++ [r] ++ [⟨i, i + 1, rd L i, rd S i⟩]), ⟨rfl, rfl, rfl, rfl, rfl, rfl, rfl, rfl, trivial⟩, ⟨by omega, by dsimp only; omega, by dsimp only; omega, hres, _, hI.push hne12_13 hM8 hv8 hk8 hnew8⟩, by dsimp only; omega⟩
      · rw [if_neg (fun h => absurd h.1 (by assumption))] at hres
        refine WC.condF rfl (by rfl) ?_
        refine WC.dr [0, 1, 2, 3, 4, 5, 6, 7, 8, 9, 10, 11, 12, 13, 14, 15] ?_
        refine mvD ?_
        refine mvD ?_
        refine mvD ?_
        refine cD (adI ?_)
        refine mvD ?_
        refine mvD ?_
        refine cD (SV.indexAddr rfl rfl (by omega) ?_)
        refine cD (ldI ?_)
        refine mvD ?_
        refine mvD ?_
        refine cD (SV.indexAddr rfl rfl (by omega) ?_)
        refine cD (ldI ?_)
        refine cD (SV.build rfl ?_)
        refine cD (SV.buildSliceM (by assumption) rfl rfl (fun a12_13 s12_13 hf12_13 hne12_13 hn12_13 hM12_13 => ?_))
        refine cD ?_
        have hv12 : SlO (H3.up a12_13 (.row 4 (enc4 ⟨i, i + 1, rd L i, rd S i⟩))) (.slice (some ⟨ν, 0, none⟩) (R0 ++ [r]).length cv) 4 (R0 ++ [r]).length ((R0 ++ [r]).flatMap enc4) := hsl.up (fun h => by obtain ⟨o, ho⟩ := hsl.base_some h; exact hne12_13 _ _ ho rfl)
        refine SV.appendM (t := 40) (u := 40) (e := 48) (e' := 48) (sz := 4) (sz' := 4) (n := (R0 ++ [r]).length) (m := 1) (vs := (R0 ++ [r]).flatMap enc4) (xs := enc4 ⟨i, i + 1, rd L i, rd S i⟩) rfl (by assumption) rfl rfl hv12 (src4 Hp.up_same) rfl (by omega) (fun v8 s8 H8 hn8 hM8 hv8 hk8 hnew8 _ => ?_)
        refine cD (SV.assign ?_)
        refine WD.nil ?_
        refine WC.region ?_
        refine cO (adI ?_)
        refine mvO ?_
        refine WO.nil ?_
        exact ⟨rfl, (i + 1, v8, R0 ++ [r] ++ [⟨i, i + 1, rd L i, rd S i⟩]), ⟨rfl, rfl, rfl, rfl, rfl, rfl, rfl, rfl, trivial⟩, ⟨by omega, by dsimp only; omega, by dsimp only; omega, hres, _, hI.push hne12_13 hM8 hv8 hk8 hnew8⟩, by dsimp only; omega⟩
  · refine WC.exit (WC.seq ?_)
    rw [show C.length - i.toNat = 0 by omega] at hres
    simp only [splitM] at hres
    subst hres
    refine WC.region ?_
    refine cO (SV.move ?_)
    refine cO (SV.assign ?_)
    refine asO ?_
    refine WO.nil ?_
    refine WC.ret ?_
    exact fin_two (e := .ret) (v := v) (w := .int .i64 0) rfl trivial rfl rfl hn3 hM3 ⟨v, rfl, fun ν o e => ⟨hI.kp _ _ (hkp2 ν o e), hI.no _ _ (hkp2 ν o e)⟩, hsl⟩
end Go.Proofs.Ythkklpegjcnjoaa

namespace Go.Proofs.Ythkklpegjcnjoaa
open Go.Ab
variable {X : CallE} {ro : Nat}
set_option maxRecDepth 10000
set_option linter.unusedVariables false
set_option linter.unusedSimpArgs false

/-- append([]int{}, xs...): a row of its own. -/
theorem app_fresh {H H8 : Hp} {a0 n : Nat} {v8 : Value} {C : List Int} (hne0 : ∀ ν o, H ν = some o → ν ≠ a0) (hn : C.length = n) (hk : KeptBut (H.up a0 (.row 1 [])) H8 (.slice (some ⟨a0, 0, none⟩) 0 0)) (hnew : NewOr (H.up a0 (.row 1 [])) (.slice (some ⟨a0, 0, none⟩) 0 0) v8)
    (hex : AppEx (H.up a0 (.row 1 [])) H8 (.slice (some ⟨a0, 0, none⟩) 0 0) v8 1 0 (0 + n) ([] ++ C.map (.int .i64))) :
    ∃ a, v8 = .slice (some ⟨a, 0, none⟩) n n ∧ H8 a = some (.row 1 (C.map (.int .i64))) ∧ ∀ ν o, H ν = some o → H8 ν = some o ∧ ν ≠ a := by
  have hfr : ∀ ν o, H ν = some o → baseV v8 ≠ some ν := fun ν o e h => by
    rcases hnew ν h with h1 | h1
    · cases h1; exact hne0 _ _ e rfl
    · rw [Hp.up_ne (hne0 _ _ e) e] at h1; cases h1
  have hkeep : ∀ ν o, H ν = some o → H8 ν = some o := fun ν o e => hk ν o (Hp.up_ne (hne0 _ _ e) e) (fun h => by cases h; exact hne0 _ _ e rfl)
  by_cases hn0 : n = 0
  · subst hn0
    obtain rfl : C = [] := List.length_eq_zero_iff.mp hn
    obtain rfl := hex.2.2.1 _ _ _ rfl (Nat.le_refl _)
    exact ⟨a0, rfl, hex.2.2.2 rfl _ _ Hp.up_same, fun ν o e => ⟨hkeep ν o e, hne0 ν o e⟩⟩
  · obtain ⟨a1, rfl, h1⟩ := hex.2.1 _ _ _ rfl (by omega)
    rw [Nat.zero_add] at *
    exact ⟨a1, rfl, h1, fun ν o e => ⟨hkeep ν o e, fun e2 => hfr ν o e (by rw [e2]; rfl)⟩⟩

theorem split_no {Y : Exts} {s : St} {H : Hp} {c cc : Nat} {C : List Int} {b : Int} (hX : ExtOk X ro Y) (hM : Models ro s H) (hc : H c = some (.row 1 (C.map (.int .i64)))) (hb : levelsBad C.length b ≠ 0) :
    Sp X Try.prog ro 29 [.slice (some ⟨c, 0, none⟩) C.length cc, .int .i64 b] s fun v H' => v = .tuple #[.slice none 0 0, .int .i64 (levelsBad C.length b)] ∧ H' = H := by
  have hX0 := hX.own
  refine Sp.of_body (hX.own _ _ _ (by decide) (by decide) (by decide) (by decide)) Try.func29 rfl Try.ntmps29 (by simp) ?_
  refine WC.seq (WC.region ?_)
  refine asO ?_
  refine asO ?_
  refine WO.nil ?_
  refine WC.seq (WC.region ?_)
  refine mvO ?_
  refine mvO ?_
  refine cO ?_
  refine SV.callM rfl rfl (levels_no hX hM hc hb) ?_
  rintro v s1 H1 hn1 hM1 ⟨rfl, rfl⟩
  have hbb : decide (levelsBad C.length b ≠ 0) = true := decide_eq_true hb
  generalize levelsBad C.length b = bad at hbb ⊢
  refine mvO ?_
  refine cO (SV.extract rfl rfl ?_)
  refine cO (SV.extract rfl rfl ?_)
  refine asO ?_
  refine asO ?_
  refine WO.nil ?_
  refine WC.seq (WC.seq (WC.region ?_))
  refine mvO ?_
  refine cO (SV.neqI rfl rfl ?_)
  refine WO.nil ?_
  refine WC.condT rfl (by assumption) (WC.seq ?_)
  refine WC.region ?_
  refine mvO ?_
  refine asO ?_
  refine asO ?_
  refine WO.nil ?_
  refine WC.ret ?_
  exact fin_two (e := .ret) (v := .slice none 0 0) (w := .int .i64 bad) rfl trivial rfl rfl hn1 hM1 ⟨rfl, rfl⟩

set_option maxHeartbeats 4000000 in
theorem cover_bad {Y : Exts} {s : St} {H : Hp} {A : Option Addr} {cap : Nat} {C : List Int} {b : Int} (hX : ExtOk X ro Y) (hM : Models ro s H) (hsrc : ∀ H' : Hp, (∀ ν o, H ν = some o → H' ν = some o) → Src Try.prog ro H' (.slice A C.length cap) 1 C.length (C.map (.int .i64))) (hbig : C.length * 8 ≤ 140737488351232) (hb : levelsBad C.length b ≠ 0) :
    Sp X Try.prog ro 11 [.slice A C.length cap, .int .i64 b] s fun v H' => v = .bool true ∧ (∀ ν o, H ν = some o → H' ν = some o) := by
  have hX0 := hX.own
  refine Sp.of_body (hX.own _ _ _ (by decide) (by decide) (by decide) (by decide)) Try.func11 rfl Try.ntmps11 (by simp) ?_
  refine WC.seq (WC.region ?_)
  refine asO ?_
  refine WO.nil ?_
  refine WC.seq (WC.seq (WC.region ?_))
  refine cO ?_
  refine SV.callM rfl rfl (hX.alive _ _ hM) ?_
  rintro v s1 H1 hn1 hM1 ⟨rfl, rfl⟩
  refine cO (SV.notT rfl (by rfl) ?_)
  refine WO.nil ?_
  refine WC.condF rfl (by rfl) (WC.skip (WC.seq ?_))
  refine WC.region ?_
  refine cO (SV.buildSliceM (by assumption) rfl rfl (fun a3_0 s3_0 hf3_0 hne3_0 hn3_0 hM3_0 => ?_))
  refine mvO ?_
  refine cO ?_
  refine SV.appendM (t := 23) (u := 23) (e := 3) (e' := 3) (sz := 1) (sz' := 1) (bytes := 8) (z := [.int .i64 0]) (n := 0) (m := C.length) (vs := []) (xs := C.map (.int .i64)) rfl (by assumption) rfl rfl (.inr ⟨a3_0, 0, [], rfl, Hp.up_same, rfl, Nat.le_refl _, rfl⟩)
    (hsrc _ (fun ν o e => Hp.up_ne (hne3_0 _ _ ((fun _ _ e => e) ν o e)) ((fun _ _ e => e) ν o e))) rfl (by omega) (fun v4 s4 H4 hn4 hM4 hv4 hk4 hnew4 hex4 => ?_)
  obtain ⟨a4, rfl, ha4, hkp4⟩ := app_fresh hne3_0 rfl hk4 hnew4 hex4
  clear hv4 hk4 hnew4 hex4 hM3_0
  refine mvO ?_
  refine cO ?_
  refine SV.callM rfl rfl (split_no hX hM4 ha4 hb) ?_
  rintro v s5 H5 hn5 hM5 ⟨rfl, rfl⟩
  have hkp5 : ∀ ν o, H1 ν = some o → H5 ν = some o := fun ν o e => (hkp4 ν o e).1
  clear hM4 hkp4
  refine mvO ?_
  refine cO (SV.extract rfl rfl ?_)
  refine cO (SV.extract rfl rfl ?_)
  refine asO ?_
  refine asO ?_
  refine WO.nil ?_
  refine WC.seq (WC.region ?_)
  refine cO (SV.buildSliceM (by assumption) rfl rfl (fun a4_0 s4_0 hf4_0 hne4_0 hn4_0 hM4_0 => ?_))
  refine mvO ?_
  refine cO ?_
  refine SV.appendM (t := 23) (u := 23) (e := 3) (e' := 3) (sz := 1) (sz' := 1) (bytes := 8) (z := [.int .i64 0]) (n := 0) (m := C.length) (vs := []) (xs := C.map (.int .i64)) rfl (by assumption) rfl rfl (.inr ⟨a4_0, 0, [], rfl, Hp.up_same, rfl, Nat.le_refl _, rfl⟩)
    (hsrc _ (fun ν o e => Hp.up_ne (hne4_0 _ _ (hkp5 ν o e)) (hkp5 ν o e))) rfl (by omega) (fun v4 s4 H4 hn4 hM4 hv4 hk4 hnew4 hex4 => ?_)
  obtain ⟨a4, rfl, ha4, hkp4⟩ := app_fresh hne4_0 rfl hk4 hnew4 hex4
  clear hv4 hk4 hnew4 hex4 hM4_0
  refine mvO ?_
  refine cO ?_
  refine SV.callM rfl rfl (levels_no hX hM4 ha4 hb) ?_
  rintro v s6 H6 hn6 hM6 ⟨rfl, rfl⟩
  have hb2 : decide (levelsBad C.length b ≠ 0) = true := decide_eq_true hb
  generalize levelsBad C.length b = bad at hb2 ⊢
  have hb1 : decide (bad ≠ bad) = false := by simp
  have hb3 : decide (bad = bad) = true := by simp
  refine mvO ?_
  refine cO (SV.extract rfl rfl ?_)
  refine cO (SV.extract rfl rfl ?_)
  refine asO ?_
  refine asO ?_
  refine WO.nil ?_
  refine WC.seq (WC.seq (WC.region ?_))
  refine mvO ?_
  refine mvO ?_
  refine cO (SV.neqI rfl rfl ?_)
  refine mvO ?_
  refine gyO (SV.moveV (by constructor) ?_)
  all_goals refine gyO (SV.neqI rfl rfl ?_)
  all_goals refine cO (pF ?_)
  all_goals refine WO.nil ?_
  refine WC.condT rfl (by assumption) (WC.seq ?_)
  refine WC.region ?_
  refine mvO ?_
  refine mvO ?_
  refine cO (SV.eqlI rfl rfl ?_)
  refine mvO ?_
  refine gyO (SV.moveV (by constructor) ?_)
  all_goals refine gyO (SV.len rfl rfl ?_)
  all_goals refine gyO (SV.eqlI rfl rfl ?_)
  all_goals refine cO (pT ?_)
  all_goals refine asO ?_
  all_goals refine WO.nil ?_
  refine WC.ret ?_
  refine fin_one (e := .ret) (v := .bool true) rfl trivial ?_ (by omega) hM6 ⟨rfl, fun ν o e => (hkp4 _ _ (hkp5 ν o e)).1⟩
  rfl
end Go.Proofs.Ythkklpegjcnjoaa

namespace Go.Proofs.Ythkklpegjcnjoaa
open Go.Ab
variable {X : CallE} {ro : Nat}
set_option maxRecDepth 10000
set_option linter.unusedVariables false
set_option linter.unusedSimpArgs false

/-- The runs cover the first i places: one behind the other, none empty, no two neighbours alike. -/
structure CovOk (L S : List Int) (i : Int) (R : List RunE) : Prop where
  st : ∀ k (h : k < R.length), R[k].f < R[k].t ∧ 0 ≤ R[k].f ∧ R[k].t ≤ i ∧ ∀ j, R[k].f ≤ j → j < R[k].t → rd L j = R[k].l
  z : ∀ h : 0 < R.length, R[0].f = 0
  nx : ∀ k (h : k + 1 < R.length), R[k + 1].f = R[k].t ∧ ¬(R[k].l = R[k + 1].l ∧ R[k].s = R[k + 1].s)
  en : (R = [] ∧ i = 0) ∨ ∃ k, ∃ h : k < R.length, k + 1 = R.length ∧ R[k].t = i
theorem snoc_low {R0 : List RunE} {x : RunE} {k : Nat} (hk : k < R0.length) (h : k < (R0 ++ [x]).length) : (R0 ++ [x])[k] = R0[k] := List.getElem_append_left hk
theorem snoc_top {R0 : List RunE} {x : RunE} {k : Nat} (hk : k = R0.length) (h : k < (R0 ++ [x]).length) : (R0 ++ [x])[k] = x := by subst hk; simp
theorem CovOk.step {L S : List Int} {i : Int} {R : List RunE} (h : CovOk L S i R) (h0 : 0 ≤ i) : CovOk L S (i + 1) (splitStep L S i R) := by
  rcases List.eq_nil_or_concat R with rfl | ⟨R0, r, hR⟩
  · have hi : i = 0 := by
      rcases h.en with ⟨_, h⟩ | ⟨k, hk, _⟩
      · exact h
      · simp at hk
    subst hi
    show CovOk L S (0 + 1) [⟨0, 0 + 1, rd L 0, rd S 0⟩]
    refine { st := fun k hk => ?_, z := fun _ => rfl, nx := fun k hk => by simp at hk, en := .inr ⟨0, by simp, rfl, rfl⟩ }
    obtain rfl : k = 0 := by simp at hk; exact hk
    simp only [List.getElem_cons_zero]
    refine ⟨by omega, by omega, by omega, fun j a b => ?_⟩
    rw [show j = 0 by omega]
  · rw [List.concat_eq_append] at hR
    subst hR
    have hlen : (R0 ++ [r]).length = R0.length + 1 := by simp
    have hlast : (R0 ++ [r])[R0.length]'(by omega) = r := by simp
    have hrt : r.t = i := by
      rcases h.en with ⟨h, _⟩ | ⟨k, hk, h1, h2⟩
      · exact absurd h (by simp)
      · have : k = R0.length := by omega
        subst this; rw [hlast] at h2; exact h2
    have hr := h.st R0.length (by omega)
    rw [hlast] at hr
    have low : ∀ k (hk : k < R0.length), (R0 ++ [r])[k]'(by omega) = R0[k] := fun k hk => List.getElem_append_left hk
    have e1 : splitStep L S i (R0 ++ [r]) = if r.l = rd L i ∧ r.s = rd S i then R0 ++ [⟨r.f, i + 1, r.l, r.s⟩] else (R0 ++ [r]) ++ [⟨i, i + 1, rd L i, rd S i⟩] := by unfold splitStep; simp
    rw [e1]
    split
    · rename_i heq
      have hl' : (R0 ++ [(⟨r.f, i + 1, r.l, r.s⟩ : RunE)]).length = R0.length + 1 := by simp
      refine { st := fun k hk => ?_, z := fun hk => ?_, nx := fun k hk => ?_, en := .inr ⟨R0.length, by omega, by omega, by rw [snoc_top rfl]⟩ }
      · by_cases hk2 : k < R0.length
        · rw [snoc_low hk2]
          have := h.st k (by omega)
          rw [snoc_low hk2] at this
          exact ⟨this.1, this.2.1, by omega, this.2.2.2⟩
        · rw [snoc_top (by omega)]
          dsimp only
          refine ⟨by omega, hr.2.1, by omega, fun j a b => ?_⟩
          by_cases hj : j < r.t
          · exact hr.2.2.2 j a hj
          · rw [show j = i by omega]; exact heq.1.symm
      · have h1 := h.z (by omega)
        by_cases hk2 : 0 < R0.length
        · rw [snoc_low hk2] at h1 ⊢; exact h1
        · rw [snoc_top (by omega)] at h1 ⊢; exact h1
      · have h1 := h.nx k (by omega)
        by_cases hk2 : k + 1 < R0.length
        · rw [snoc_low hk2, snoc_low (show k < R0.length by omega)] at h1 ⊢; exact h1
        · rw [snoc_top (show k + 1 = R0.length by omega), snoc_low (show k < R0.length by omega)] at h1 ⊢; exact h1
    · rename_i hne
      have hl' : ((R0 ++ [r]) ++ [(⟨i, i + 1, rd L i, rd S i⟩ : RunE)]).length = R0.length + 2 := by simp
      refine { st := fun k hk => ?_, z := fun hk => ?_, nx := fun k hk => ?_, en := .inr ⟨R0.length + 1, by omega, by omega, by rw [snoc_top (by omega)]⟩ }
      · by_cases hk2 : k < (R0 ++ [r]).length
        · rw [snoc_low hk2]
          have := h.st k hk2
          exact ⟨this.1, this.2.1, by omega, this.2.2.2⟩
        · rw [snoc_top (by omega)]
          dsimp only
          refine ⟨by omega, h0, by omega, fun j a b => ?_⟩
          rw [show j = i by omega]
      · rw [snoc_low (by omega)]
        exact h.z (by omega)
      · by_cases hk2 : k + 1 < (R0 ++ [r]).length
        · rw [snoc_low hk2, snoc_low (show k < (R0 ++ [r]).length by omega)]
          exact h.nx k hk2
        · rw [snoc_top (show k + 1 = (R0 ++ [r]).length by omega), snoc_low (show k < (R0 ++ [r]).length by omega), snoc_top (show k = R0.length by omega)]
          exact ⟨hrt.symm, hne⟩
theorem splitM_cov {L S : List Int} : ∀ (n : Nat) (i : Int) (R : List RunE), CovOk L S i R → 0 ≤ i → CovOk L S (i + n) (splitM L S n i R)
  | 0, i, R, h, _ => by simpa [splitM] using h
  | n + 1, i, R, h, h0 => by
    have := splitM_cov n (i + 1) _ (h.step h0) (by omega)
    simp only [splitM]
    rw [show i + ((n + 1 : Nat) : Int) = i + 1 + (n : Int) by push_cast; omega]
    exact this
theorem split_cov (L S : List Int) (n : Nat) : CovOk L S n (splitM L S n 0 []) := by
  have := splitM_cov (L := L) (S := S) n 0 [] { st := fun k h => by simp at h, z := fun h => by simp at h, nx := fun k h => by simp at h, en := .inl ⟨rfl, rfl⟩ } (Int.le_refl _)
  rw [Int.zero_add] at this
  exact this
end Go.Proofs.Ythkklpegjcnjoaa

namespace Go.Proofs.Ythkklpegjcnjoaa
open Go.Ab
variable {X : CallE} {ro : Nat}
set_option maxRecDepth 10000
set_option linter.unusedVariables false
set_option linter.unusedSimpArgs false

def endT (R : List RunE) : Nat → Int
  | 0 => 0
  | k + 1 => (R.getD k ⟨0, 0, 0, 0⟩).t
theorem getD_run {R : List RunE} {k : Nat} (h : k < R.length) : R.getD k ⟨0, 0, 0, 0⟩ = R[k] := by rw [List.getD_eq_getElem?_getD, List.getElem?_eq_getElem h]; rfl
theorem CovOk.from {L S : List Int} {i : Int} {R : List RunE} (h : CovOk L S i R) : ∀ (k : Nat) (hk : k < R.length), R[k].f = endT R k
  | 0, hk => h.z hk
  | k + 1, hk => by rw [(h.nx k hk).1]; simp only [endT, getD_run (show k < R.length by omega)]
theorem CovOk.low {L S : List Int} {i : Int} {R : List RunE} (h : CovOk L S i R) : ∀ (k : Nat) (hk : k < R.length), (k : Int) ≤ R[k].f
  | 0, hk => by rw [h.z hk]; exact Int.le_refl _
  | k + 1, hk => by
    have h1 := h.low k (by omega)
    have h2 := (h.st k (by omega)).1
    rw [(h.nx k hk).1]; push_cast; omega
theorem CovOk.len {L S : List Int} {i : Int} {R : List RunE} (h : CovOk L S i R) : (R.length : Int) ≤ i := by
  rcases h.en with ⟨rfl, rfl⟩ | ⟨k, hk, h1, h2⟩
  · simp
  · have h3 := h.low k hk
    have h4 := (h.st k hk).1
    omega
theorem CovOk.end {L S : List Int} {i : Int} {R : List RunE} (h : CovOk L S i R) : endT R R.length = i := by
  rcases h.en with ⟨rfl, rfl⟩ | ⟨k, hk, h1, h2⟩
  · rfl
  · rw [← h1]; simp only [endT, getD_run hk, h2]
end Go.Proofs.Ythkklpegjcnjoaa
