/- A part of the proof: rules for walking code over the evaluator, and what the functions that were walked come to: no condition but those that each theorem states. -/
import Derived.Test.YthkklpegjcnjoaaTC
set_option linter.unusedVariables false
set_option linter.unusedSimpArgs false
namespace Go.Proofs.Ythkklpegjcnjoaa
open Go.Ab
variable {X : CallE} {ro : Nat}
set_option maxRecDepth 10000
set_option linter.unusedVariables false
set_option linter.unusedSimpArgs false

/-- A slice of just these cells, or nil. -/
def SlE (H : Hp) (v : Value) (L : List Value) : Prop := (v = .slice none 0 0 ∧ L = []) ∨ (L ≠ [] ∧ ∃ a, v = .slice (some ⟨a, 0, none⟩) L.length L.length ∧ H a = some (.row 1 L))
theorem SlE.toO {H : Hp} {v : Value} {L : List Value} (h : SlE H v L) : SlO H v 1 L.length L := by
  rcases h with ⟨rfl, rfl⟩ | ⟨_, a, rfl, h⟩
  · exact .inl ⟨rfl, rfl, rfl⟩
  · exact .inr ⟨a, L.length, L, rfl, h, by simp, Nat.le_refl _, by simp⟩
theorem SlE.base {H : Hp} {v : Value} {L : List Value} (h : SlE H v L) {μ : Nat} (e : baseV v = some μ) : L ≠ [] ∧ H μ = some (.row 1 L) := by
  rcases h with ⟨rfl, rfl⟩ | ⟨h0, a, rfl, h⟩
  · cases e
  · cases e; exact ⟨h0, h⟩
theorem SlE.keep {H H1 : Hp} {v : Value} {L : List Value} (h : SlE H v L) (hk : ∀ ν o, baseV v = some ν → H ν = some o → H1 ν = some o) : SlE H1 v L := by
  rcases h with h | ⟨h0, a, rfl, h⟩
  · exact .inl h
  · exact .inr ⟨h0, a, rfl, hk _ _ rfl h⟩
theorem SlE.app {H H0 H1 : Hp} {v v' : Value} {L xs : List Value} {m : Nat} (h : SlE H v L) (hx : xs ≠ []) (hm : m = xs.length) (ha : AppEx H0 H1 v v' 1 L.length (L.length + m) (L ++ xs)) : SlE H1 v' (L ++ xs) := by
  have hl : 0 < xs.length := List.length_pos_iff.mpr hx
  have hc : ∃ A l c, v = .slice A l c ∧ c < L.length + m := by
    rcases h with ⟨rfl, rfl⟩ | ⟨_, a, rfl, h⟩
    · exact ⟨_, _, _, rfl, by omega⟩
    · exact ⟨_, _, _, rfl, by omega⟩
  obtain ⟨A, l, c, e, hc⟩ := hc
  obtain ⟨a, e1, e2⟩ := ha.2.1 A l c e hc
  exact .inr ⟨fun e => hx (List.append_eq_nil_iff.mp e).2, a, by rw [e1, List.length_append, hm], e2⟩

def ptrV (q : Nat) : Value := .pointer (some ⟨q, 0, none⟩)
/-- A sequence in the making. -/
structure SQ where
  (q : Nat) (v : Value) (A : List Int) (lv st en : Int)
instance : Inhabited SQ := ⟨⟨0, .slice none 0 0, [], 0, 0, 0⟩⟩
def rowQ (t : Nat) (r : SQ) : List Value := [ptrV t, r.v, .int .i64 r.lv, .int .i64 r.st, .int .i64 r.en]
structure SeqsI (ro : Nat) (s1 : St) (H0 H1 : Hp) (t am : Nat) (Lm : List (Int × Value)) (vo : Value) (R : List SQ) (G : Int → Option Nat) : Prop where
  md : Models ro s1 H1
  kp : ∀ ν o, H0 ν = some o → H1 ν = some o
  mp : H1 am = some (.map (encM Lm))
  am0 : ∀ ν o, H0 ν = some o → ν ≠ am
  mg : ∀ k, mget Lm k = (G k).map fun i => ptrV (R.getD i default).q
  gl : ∀ k i, G k = some i → i < R.length
  out : SlE H1 vo (R.map fun r => ptrV r.q)
  no : ∀ ν o, H0 ν = some o → baseV vo ≠ some ν
  rc : ∀ i (h : i < R.length), (∃ es, H1 R[i].q = some (.row es (rowQ t R[i]))) ∧ SlE H1 R[i].v (R[i].A.map (.int .i64))
  nq : ∀ i (h : i < R.length), ∀ ν o, H0 ν = some o → ν ≠ R[i].q ∧ baseV R[i].v ≠ some ν
  dq : ∀ i j (hi : i < R.length) (hj : j < R.length), R[i].q = R[j].q → i = j
  dv : ∀ i j (hi : i < R.length) (hj : j < R.length) (μ : Nat), baseV R[i].v = some μ → baseV R[j].v = some μ → i = j

section
variable {s1 s2 : St} {H0 H1 H2 : Hp} {t am : Nat} {Lm : List (Int × Value)} {vo : Value} {R : List SQ} {G : Int → Option Nat}
theorem SeqsI.v_q (h : SeqsI ro s1 H0 H1 t am Lm vo R G) {i j : Nat} (hi : i < R.length) (hj : j < R.length) : baseV R[i].v ≠ some R[j].q := fun e => by
  obtain ⟨es, h1⟩ := (h.rc j hj).1
  obtain ⟨h2, h3⟩ := (h.rc i hi).2.base e
  rw [h1] at h3
  cases hA : R[i].A with
  | nil => rw [hA] at h2; exact h2 rfl
  | cons x A => rw [hA] at h3; simp only [rowQ, ptrV, List.map_cons, Option.some.injEq, Go.Ab.Obj.row.injEq, List.cons.injEq] at h3; exact absurd h3.2.1 (by intro h; cases h)
theorem SeqsI.o_q (h : SeqsI ro s1 H0 H1 t am Lm vo R G) {j : Nat} (hj : j < R.length) : baseV vo ≠ some R[j].q := fun e => by
  obtain ⟨es, h1⟩ := (h.rc j hj).1
  obtain ⟨h2, h3⟩ := h.out.base e
  rw [h1] at h3
  have h4 : (rowQ t R[j])[2]? = (R.map fun r => ptrV r.q)[2]? := by rw [Option.some.injEq, Go.Ab.Obj.row.injEq] at h3; rw [h3.2]
  simp only [rowQ, List.getElem?_map] at h4
  cases hR : R[2]? with
  | none => rw [hR] at h4; cases h4
  | some r => rw [hR] at h4; simp [ptrV] at h4
theorem SeqsI.o_v (h : SeqsI ro s1 H0 H1 t am Lm vo R G) {i : Nat} (hi : i < R.length) {μ : Nat} (e : baseV vo = some μ) : baseV R[i].v ≠ some μ := fun e2 => by
  obtain ⟨h1, h2⟩ := h.out.base e
  obtain ⟨h3, h4⟩ := (h.rc i hi).2.base e2
  rw [h2] at h4
  cases hA : R[i].A with
  | nil => rw [hA] at h3; exact h3 rfl
  | cons x A => cases hR : R with
    | nil => rw [hR] at h1; exact h1 rfl
    | cons r R' =>
      have h5 : (R.map fun r => ptrV r.q)[0]? = (R[i].A.map (Value.int .i64))[0]? := by rw [Option.some.injEq, Go.Ab.Obj.row.injEq] at h4; rw [h4.2]
      rw [hA] at h5
      simp [hR, ptrV] at h5
theorem SeqsI.m_q (h : SeqsI ro s1 H0 H1 t am Lm vo R G) {j : Nat} (hj : j < R.length) : am ≠ R[j].q := fun e => by
  obtain ⟨es, h1⟩ := (h.rc j hj).1
  rw [← e, h.mp] at h1; cases h1
theorem SeqsI.m_v (h : SeqsI ro s1 H0 H1 t am Lm vo R G) {j : Nat} (hj : j < R.length) : baseV R[j].v ≠ some am := fun e => by
  have h1 := ((h.rc j hj).2.base e).2
  rw [h.mp] at h1; cases h1
theorem SeqsI.m_o (h : SeqsI ro s1 H0 H1 t am Lm vo R G) : baseV vo ≠ some am := fun e => by
  have h1 := (h.out.base e).2
  rw [h.mp] at h1; cases h1

/-- The i-th sequence becomes another, in its old place. -/
theorem SeqsI.setR (h : SeqsI ro s1 H0 H1 t am Lm vo R G) {i : Nat} (hi : i < R.length) {r' : SQ} {es : Nat} (hM : Models ro s2 H2) (hk : ∀ μ o, H1 μ = some o → μ ≠ R[i].q → baseV R[i].v ≠ some μ → H2 μ = some o)
    (hq : H2 R[i].q = some (.row es (rowQ t r'))) (hrq : r'.q = R[i].q) (hv : SlE H2 r'.v (r'.A.map (.int .i64))) (hn : ∀ μ, baseV r'.v = some μ → baseV R[i].v = some μ ∨ H1 μ = none) : SeqsI ro s2 H0 H2 t am Lm vo (R.set i r') G := by
  have hl : (R.set i r').length = R.length := List.length_set
  have get : ∀ j (hj : j < R.length), (R.set i r')[j]'(by rw [hl]; exact hj) = if i = j then r' else R[j] := fun j hj => List.getElem_set _
  have qs : ∀ j (hj : j < R.length), ((R.set i r')[j]'(by rw [hl]; exact hj)).q = R[j].q := fun j hj => by
    rw [get j hj]; split
    · rename_i e; subst e; exact hrq
    · rfl
  have mapq : (R.set i r').map (fun r => ptrV r.q) = R.map (fun r => ptrV r.q) := by
    apply List.ext_getElem?
    intro j
    rw [List.getElem?_map, List.getElem?_map]
    by_cases hj : j < R.length
    · rw [List.getElem?_eq_getElem (by rw [hl]; exact hj), List.getElem?_eq_getElem hj]
      simp only [Option.map_some, qs j hj]
    · rw [List.getElem?_eq_none (by rw [hl]; omega), List.getElem?_eq_none (by omega)]
  have newv : ∀ μ o, H1 μ = some o → baseV R[i].v ≠ some μ → baseV r'.v ≠ some μ := fun μ o e1 e2 e3 => by
    rcases hn μ e3 with e | e
    · exact e2 e
    · rw [e1] at e; cases e
  have kp0 : ∀ ν o, H0 ν = some o → H2 ν = some o := fun ν o e => hk ν o (h.kp ν o e) (h.nq i hi ν o e).1 (h.nq i hi ν o e).2
  refine { md := hM, kp := kp0, mp := hk _ _ h.mp (h.m_q hi) (h.m_v hi), am0 := h.am0, mg := fun k => ?_, gl := fun k j e => by rw [hl]; exact h.gl k j e, out := ?_, no := h.no, rc := fun j hj => ?_, nq := fun j hj ν o e => ?_, dq := fun a b ha hb e => ?_, dv := fun a b ha hb μ e1 e2 => ?_ }
  · rw [h.mg k]
    cases hG : G k with
    | none => rfl
    | some j =>
      have hj := h.gl k j hG
      simp only [Option.map_some]
      rw [List.getD_eq_getElem?_getD, List.getD_eq_getElem?_getD, List.getElem?_eq_getElem (l := R.set i r') (by rw [hl]; exact hj), List.getElem?_eq_getElem (l := R) hj]
      simp only [Option.getD_some, qs j hj]
  · rw [mapq]
    exact h.out.keep fun ν o e1 e2 => hk ν o e2 (fun e => h.o_q hi (by rw [← e]; exact e1)) (h.o_v hi e1)
  · rw [hl] at hj
    rw [get j hj]
    split
    · refine ⟨⟨es, ?_⟩, hv⟩
      rw [hrq]; exact hq
    · rename_i hne
      obtain ⟨⟨e0, h1⟩, h2⟩ := h.rc j hj
      exact ⟨⟨e0, hk _ _ h1 (fun e => hne (h.dq i j hi hj e.symm)) (h.v_q hi hj)⟩,
        h2.keep fun ν o e1 e2 => hk ν o e2 (fun e => h.v_q hj hi (by rw [← e]; exact e1)) (fun e => hne (h.dv i j hi hj ν e e1))⟩
  · rw [hl] at hj
    refine ⟨by rw [qs j hj]; exact (h.nq j hj ν o e).1, ?_⟩
    rw [get j hj]
    split
    · exact newv ν o (h.kp ν o e) (h.nq i hi ν o e).2
    · exact (h.nq j hj ν o e).2
  · rw [hl] at ha hb
    rw [qs a ha, qs b hb] at e
    exact h.dq a b ha hb e
  · rw [hl] at ha hb
    rw [get a ha] at e1
    rw [get b hb] at e2
    have key : ∀ j (hj : j < R.length), i ≠ j → baseV r'.v = some μ → baseV R[j].v = some μ → False := fun j hj hne e1 e2 => by
      have h1 := ((h.rc j hj).2.base e2).2
      rcases hn μ e1 with e | e
      · exact hne (h.dv i j hi hj μ e e2)
      · rw [h1] at e; cases e
    by_cases ea : i = a
    · by_cases eb : i = b
      · omega
      · rw [if_pos ea] at e1; rw [if_neg eb] at e2
        exact (key b hb eb e1 e2).elim
    · rw [if_neg ea] at e1
      by_cases eb : i = b
      · rw [if_pos eb] at e2
        exact (key a ha ea e2 e1).elim
      · rw [if_neg eb] at e2
        exact h.dv a b ha hb μ e1 e2

/-- One more. -/
theorem SeqsI.addR (h : SeqsI ro s1 H0 H1 t am Lm vo R G) {r' : SQ} {es : Nat} {vo' : Value} (hM : Models ro s2 H2) (hk : ∀ μ o, H1 μ = some o → baseV vo ≠ some μ → H2 μ = some o) (hf : H1 r'.q = none)
    (hq : H2 r'.q = some (.row es (rowQ t r'))) (hv : r'.v = .slice none 0 0) (hA : r'.A = []) (ho : SlE H2 vo' (R.map (fun r => ptrV r.q) ++ [ptrV r'.q])) (hn : ∀ μ, baseV vo' = some μ → baseV vo = some μ ∨ H1 μ = none) : SeqsI ro s2 H0 H2 t am Lm vo' (R ++ [r']) G := by
  have kp0 : ∀ ν o, H0 ν = some o → H2 ν = some o := fun ν o e => hk ν o (h.kp ν o e) (h.no ν o e)
  have get : ∀ j (hj : j < (R ++ [r']).length), (∃ hj' : j < R.length, (R ++ [r'])[j] = R[j]) ∨ (j = R.length ∧ (R ++ [r'])[j] = r') := fun j hj => by
    by_cases h1 : j < R.length
    · exact .inl ⟨h1, List.getElem_append_left h1⟩
    · have h2 : j = R.length := by rw [List.length_append, List.length_singleton] at hj; omega
      subst h2
      exact .inr ⟨rfl, by simp⟩
  have hbn : baseV r'.v = none := by rw [hv]; rfl
  refine { md := hM, kp := kp0, mp := hk _ _ h.mp h.m_o, am0 := h.am0, mg := fun k => ?_, gl := fun k j e => by have := h.gl k j e; rw [List.length_append]; omega, out := by rw [List.map_append]; exact ho, no := fun ν o e e2 => ?_, rc := fun j hj => ?_, nq := fun j hj ν o e => ?_, dq := fun a b ha hb e => ?_, dv := fun a b ha hb μ e1 e2 => ?_ }
  · rw [h.mg k]
    cases hG : G k with
    | none => rfl
    | some j =>
      have hj := h.gl k j hG
      simp only [Option.map_some]
      rw [List.getD_eq_getElem?_getD, List.getD_eq_getElem?_getD, List.getElem?_append_left hj]
  · rcases hn ν e2 with e3 | e3
    · exact h.no ν o e e3
    · rw [h.kp ν o e] at e3; cases e3
  · rcases get j hj with ⟨hj', e⟩ | ⟨_, e⟩
    · rw [e]
      obtain ⟨⟨e0, h1⟩, h2⟩ := h.rc j hj'
      exact ⟨⟨e0, hk _ _ h1 (h.o_q hj')⟩, h2.keep fun ν o e1 e2 => hk ν o e2 (fun e3 => h.o_v hj' e3 e1)⟩
    · rw [e]
      exact ⟨⟨es, hq⟩, .inl ⟨hv, by rw [hA]; rfl⟩⟩
  · rcases get j hj with ⟨hj', e1⟩ | ⟨_, e1⟩
    · rw [e1]; exact h.nq j hj' ν o e
    · rw [e1]
      refine ⟨fun e2 => ?_, by rw [hbn]; intro h; cases h⟩
      have := h.kp ν o e
      rw [e2, hf] at this; cases this
  · rcases get a ha with ⟨ha', e1⟩ | ⟨e0, e1⟩ <;> rcases get b hb with ⟨hb', e2⟩ | ⟨e3, e2⟩ <;> rw [e1, e2] at e
    · exact h.dq a b ha' hb' e
    · obtain ⟨_, h1⟩ := (h.rc a ha').1
      rw [e, hf] at h1; cases h1
    · obtain ⟨_, h1⟩ := (h.rc b hb').1
      rw [← e, hf] at h1; cases h1
    · omega
  · rcases get a ha with ⟨ha', e3⟩ | ⟨e0, e3⟩ <;> rcases get b hb with ⟨hb', e4⟩ | ⟨e5, e4⟩ <;> rw [e3] at e1 <;> rw [e4] at e2
    · exact h.dv a b ha' hb' μ e1 e2
    · rw [hbn] at e2; cases e2
    · rw [hbn] at e1; cases e1
    · omega

theorem SeqsI.put (h : SeqsI ro s1 H0 H1 t am Lm vo R G) {i : Nat} (hi : i < R.length) {k : Int} (hM : Models ro s2 (H1.up am (.map (encM (mput Lm k (ptrV R[i].q)))))) :
    SeqsI ro s2 H0 (H1.up am (.map (encM (mput Lm k (ptrV R[i].q))))) t am (mput Lm k (ptrV R[i].q)) vo R (fun x => if x = k then some i else G x) := by
  refine { md := hM, kp := fun ν o e => Hp.up_ne (h.am0 ν o e) (h.kp ν o e), mp := Hp.up_same, am0 := h.am0, mg := fun x => ?_, gl := fun x j e => ?_, out := h.out.keep fun ν o e1 e2 => Hp.up_ne (fun e => h.m_o (by rw [← e]; exact e1)) e2, no := h.no, rc := fun j hj => ?_, nq := h.nq, dq := h.dq, dv := h.dv }
  · rw [mget_mput]
    by_cases e : x = k
    · rw [if_pos e, if_pos e, Option.map_some, List.getD_eq_getElem?_getD, List.getElem?_eq_getElem hi]; rfl
    · rw [if_neg e, if_neg e]; exact h.mg x
  · split at e
    · cases e; exact hi
    · exact h.gl x j e
  · obtain ⟨⟨e0, h1⟩, h2⟩ := h.rc j hj
    exact ⟨⟨e0, Hp.up_ne (Ne.symm (h.m_q hj)) h1⟩, h2.keep fun ν o e1 e2 => Hp.up_ne (fun e => h.m_v hj (by rw [← e]; exact e1)) e2⟩
theorem SeqsI.step (h : SeqsI ro s1 H0 H1 t am Lm vo R G) (hM : Models ro s2 H1) : SeqsI ro s2 H0 H1 t am Lm vo R G := { h with md := hM }
end
end Go.Proofs.Ythkklpegjcnjoaa

namespace Go.Proofs.Ythkklpegjcnjoaa
open Go.Ab
variable {X : CallE} {ro : Nat}
set_option maxRecDepth 10000
set_option linter.unusedVariables false
set_option linter.unusedSimpArgs false

/-- The places that stay, in order. -/
def orderM (F : List Int) : Nat → Int → List Int → List Int
  | 0, _, O => O
  | r + 1, i, O => orderM F r (i + 1) (if isRemoved (rd F i) then O else O ++ [i])
def runEnd (F L O : List Int) (k : Int) : Nat → Int → Int
  | 0, j => j
  | r + 1, j => if rd L (rd O j) = rd L (rd O k) ∧ (j = k ∨ rd F (rd O (j - 1)) ≠ 10) then runEnd F L O k r (j + 1) else j
theorem runEnd_ge {F L O : List Int} {k : Int} : ∀ (r : Nat) (j : Int), j ≤ runEnd F L O k r j ∧ runEnd F L O k r j ≤ j + r
  | 0, j => by simp [runEnd]
  | r + 1, j => by
    simp only [runEnd]
    split
    · have := runEnd_ge (F := F) (L := L) (O := O) (k := k) r (j + 1); push_cast; omega
    · push_cast; omega
theorem runEnd_gt {F L O : List Int} {k : Int} {r : Nat} (h : 0 < r) : k < runEnd F L O k r k := by
  obtain ⟨r, rfl⟩ : ∃ m, r = m + 1 := ⟨r - 1, by omega⟩
  simp only [runEnd]
  rw [if_pos ⟨trivial, .inl trivial⟩]
  have := (runEnd_ge (F := F) (L := L) (O := O) (k := k) r (k + 1)).1
  omega
structure SE where
  (A : List Int) (lv st en : Int)
instance : Inhabited SE := ⟨⟨[], 0, 0, 0⟩⟩
def maxI (a b : Int) : Int := if a < b then b else a
def partI (O : List Int) (k j : Int) : List Int := (O.drop k.toNat).take (j.toNat - k.toNat)
def beforeM (F L : List Int) (b : Int) (O : List Int) (k : Int) : Int := if 0 < k ∧ rd F (rd O (k - 1)) ≠ 10 then rd L (rd O (k - 1)) else b
def afterM (F L : List Int) (b : Int) (O : List Int) (j : Int) : Int := if j < O.length ∧ ¬isOpener (rd F (rd O (j - 1))) ∧ rd F (rd O (j - 1)) ≠ 10 then rd L (rd O j) else b
def newE (F L : List Int) (b : Int) (O : List Int) (k : Int) : SE := ⟨[], rd L (rd O k), maxI (rd L (rd O k)) (beforeM F L b O k) % 2, 0⟩
/-- The run from k to j goes to its sequence. -/
def growE (F L : List Int) (b : Int) (O : List Int) (k j : Int) (e : SE) : SE := ⟨e.A ++ partI O k j, e.lv, e.st, maxI e.lv (afterM F L b O j) % 2⟩
def openG (F M O : List Int) (j : Int) (i : Nat) (G : Int → Option Nat) : Int → Option Nat :=
  if isOpener (rd F (rd O (j - 1))) ∧ 0 ≤ rd M (rd O (j - 1)) then fun x => if x = rd M (rd O (j - 1)) then some i else G x else G
def stepE (F L : List Int) (b : Int) (O : List Int) (k j : Int) (i : Nat) (E : List SE) : List SE := E.set i (growE F L b O k j (E.getD i default))
def seqsM (F L M : List Int) (b : Int) (O : List Int) : Nat → Int → List SE → (Int → Option Nat) → List SE
  | 0, _, E, _ => E
  | n + 1, k, E, G =>
    if k < O.length then
      let j := runEnd F L O k (O.length - k.toNat) k
      match G (rd O k) with
      | some i => seqsM F L M b O n j (stepE F L b O k j i E) (openG F M O j i G)
      | none => seqsM F L M b O n j (stepE F L b O k j E.length (E ++ [newE F L b O k])) (openG F M O j E.length G)
    else E
/-- (text).sequences -/
def sequencesM (F L M : List Int) (b : Int) : List SE :=
  seqsM F L M b (orderM F F.length 0 []) ((orderM F F.length 0 []).length + 1) 0 [] (fun _ => none)

def seE (r : SQ) : SE := ⟨r.A, r.lv, r.st, r.en⟩
structure OrdI (ro : Nat) (s1 : St) (H H1 : Hp) (v : Value) (i : Int) (O : List Int) : Prop where
  md : Models ro s1 H1
  kp : ∀ ν o, H ν = some o → H1 ν = some o
  sl : SlE H1 v (O.map (.int .i64))
  no : ∀ ν o, H ν = some o → baseV v ≠ some ν
  ok : ∀ x ∈ O, 0 ≤ x ∧ x < i
  ln : (O.length : Int) ≤ i
theorem OrdI.next {s1 s2 : St} {H H1 H2 : Hp} {v v' : Value} {i : Int} {O : List Int} {a : Nat} {x : Go.Ab.Obj} (h : OrdI ro s1 H H1 v i O) (h0 : 0 ≤ i) (ha : ∀ ν o, H1 ν = some o → ν ≠ a) (hM : Models ro s2 H2) (hk : KeptBut (H1.up a x) H2 v) (hn : NewOr (H1.up a x) v v')
    (hx : AppEx (H1.up a x) H2 v v' 1 O.length (O.length + 1) (O.map (.int .i64) ++ [.int .i64 i])) : OrdI ro s2 H H2 v' (i + 1) (O ++ [i]) where
  md := hM
  kp := fun ν o e => hk ν o (Hp.up_ne (ha ν o (h.kp ν o e)) (h.kp ν o e)) (h.no ν o e)
  sl := by
    have hl : (O.map (Value.int .i64)).length = O.length := List.length_map _
    have := SlE.app (H0 := H1.up a x) (H1 := H2) (v' := v') (xs := [.int .i64 i]) (m := 1) h.sl (by simp) rfl (by rw [hl]; exact hx)
    simpa using this
  no := fun ν o e e2 => by
    rcases hn ν e2 with e3 | e3
    · exact h.no ν o e e3
    · rw [Hp.up_ne (ha ν o (h.kp ν o e)) (h.kp ν o e)] at e3; cases e3
  ok := fun y hy => by
    rcases List.mem_append.mp hy with hy | hy
    · have := h.ok y hy; omega
    · rw [List.mem_singleton] at hy; omega
  ln := by have := h.ln; rw [List.length_append, List.length_singleton]; omega

/-- What the loop over the runs knows. -/
structure SeqsL (n : Nat) (R : List SQ) (k : Int) : Prop where
  ln : (R.length : Int) ≤ k
  al : ∀ i (h : i < R.length), (R[i].A.length : Int) ≤ k ∧ R[i].A ≠ [] ∧ ∀ x ∈ R[i].A, 0 ≤ x ∧ x < n

theorem SeqsI.weaken {s1 : St} {H0 H00 H1 : Hp} {t am : Nat} {Lm : List (Int × Value)} {vo : Value} {R : List SQ} {G : Int → Option Nat} (h : SeqsI ro s1 H0 H1 t am Lm vo R G) (hk : ∀ ν o, H00 ν = some o → H0 ν = some o) : SeqsI ro s1 H00 H1 t am Lm vo R G :=
  { h with kp := fun ν o e => h.kp ν o (hk ν o e), am0 := fun ν o e => h.am0 ν o (hk ν o e), no := fun ν o e => h.no ν o (hk ν o e), nq := fun i hi ν o e => h.nq i hi ν o (hk ν o e) }

theorem zero57 : zeroOf Try.prog 57 = some (.pointer none) := by kernel_rfl
set_option maxHeartbeats 8000000 in
theorem sequences_sp {Y : Exts} {s : St} {H : Hp} {D : TD} (hX : ExtOk X ro Y) (hM : Models ro s H) (hT : TextH H D) :
    Sp X Try.prog ro 39 [.pointer (some ⟨D.t, 0, none⟩)] s fun v H' => ∃ (R : List SQ) (s' : St) (am : Nat) (Lm : List (Int × Value)) (G : Int → Option Nat), SeqsI ro s' H H' D.t am Lm v R G ∧ SeqsL D.n R D.n ∧ R.map seE = sequencesM D.F D.L D.M D.b := by
  have hbig := hT.big
  have hX0 := hX.own
  have hnF := hT.nF
  obtain ⟨e, cc, cf, cw, cl, cm, ht⟩ := hT.t
  refine Sp.of_body (hX.own _ _ _ (by decide) (by decide) (by decide) (by decide)) Try.func39 rfl Try.ntmps39 (by simp) ?_
  refine WC.seq (WC.region ?_)
  refine asO ?_
  refine WO.nil ?_
  refine WC.seq (WC.region ?_)
  refine asO ?_
  refine WO.nil ?_
  refine WC.seq (WC.seq (WC.region ?_))
  refine mvO ?_
  refine cO (SV.nilPtr rfl ?_)
  refine cO (SV.fieldAddr rfl ?_)
  refine cO (ldM ?_)
  refine cO (SV.len rfl rfl ?_)
  refine mvO ?_
  refine WO.nil ?_
  refine WC.block ?_
  unfold sequencesM
  generalize hOR : orderM D.F D.F.length 0 [] = OR
  refine WC.loop (D := Int × Value × List Int) (fun x => [(0, .pointer (some ⟨D.t, 0, none⟩)), (2, .slice none 0 0), (3, x.2.1), (18, .slice (some ⟨D.f, 0, none⟩) D.n cf), (19, .int .i64 D.n), (20, .int .i64 x.1)])
    (fun x s1 => s.next ≤ s1.next ∧ 0 ≤ x.1 ∧ x.1 ≤ D.n ∧ orderM D.F (D.n - x.1.toNat) x.1 x.2.2 = OR ∧ ∃ H1, OrdI ro s1 H H1 x.2.1 x.1 x.2.2)
    (fun x => D.n - x.1.toNat) (0, .slice none 0 0, []) ?_ ⟨Nat.le_refl _, Int.le_refl _, by simp, by rw [← hOR, hnF]; rfl, H, { md := hM, kp := fun _ _ h => h, sl := .inl ⟨rfl, rfl⟩, no := fun _ _ _ h => (by cases h), ok := fun x h => (by cases h), ln := by simp }⟩ ?_
  · exact ⟨rfl, rfl, rfl, rfl, rfl, rfl, trivial⟩
  rintro ⟨i, vO, O⟩ g s1 ⟨hn1, hi0, hi1, hres, H1, hI⟩
  dsimp only at hn1 hi0 hi1 hres hI ⊢
  have hM1 := hI.md
  have hf1 := hI.kp _ _ hT.f
  refine WC.seq (WC.region ?_)
  refine cO (SV.lss rfl rfl ?_)
  refine WO.nil ?_
  refine WC.seq ?_
  refine WC.condD rfl (fun hlt hltb => ?_) (fun hlt hltb => ?_)
  · rw [show D.n - i.toNat = (D.n - (i + 1).toNat) + 1 by omega] at hres
    simp only [orderM] at hres
    have hol := hI.ln
    refine WC.skip (WC.seq (WC.block (WC.seq (WC.region ?_))))
    refine mvO ?_
    refine cO (SV.indexAddr rfl rfl (by omega) ?_)
    refine cO (ldI ?_)
    refine asO ?_
    refine asO ?_
    refine WO.nil ?_
    refine WC.seq (WC.region ?_)
    refine mvO ?_
    refine cO ?_
    refine SV.callM rfl rfl (removed_sp hX0 hM1) ?_
    rintro v s2 H2 hn2 hM2 ⟨rfl, rfl⟩
    refine cO (SV.notD rfl ?_)
    refine WO.nil ?_
    refine WC.cond rfl (fun hc => ?_) (fun hc => ?_)
    · have hr : ¬isRemoved (rd D.F i) := by simpa using hc
      rw [if_neg hr] at hres
      refine WC.region ?_
      refine cO (SV.move ?_)
      refine mvO ?_
      refine cO (SV.buildSliceM (by assumption) rfl rfl (fun a6_2 s6_2 hf6_2 hne6_2 hn6_2 hM6_2 => ?_))
      refine cO ?_
      have hv6 : SlO (H2.up a6_2 (.row 1 [.int .i64 i])) vO 1 O.length (O.map (.int .i64)) := by
        have := hI.sl.toO
        rw [List.length_map] at this
        exact this.up (fun h => by obtain ⟨o, ho⟩ := hI.sl.toO.base_some h; exact hne6_2 _ _ ho rfl)
      refine SV.appendM (e := 3) (e' := 3) (sz := 1) (sz' := 1) (n := O.length) (m := 1) (vs := O.map (.int .i64)) (xs := [.int .i64 i]) rfl (by assumption) rfl rfl hv6
        (Src.row Hp.up_same rfl rfl (fun j v h => by rw [Nat.zero_add]; exact h)) rfl (by omega) (fun v8 s8 H8 hn8 hM8 hv8 hk8 hnew8 hex8 => ?_)
      refine cO (SV.assign ?_)
      refine WO.nil ?_
      refine WC.region ?_
      refine cO (adI ?_)
      refine mvO ?_
      refine WO.nil ?_
      exact ⟨rfl, (i + 1, v8, O ++ [i]), ⟨rfl, rfl, rfl, rfl, rfl, rfl, trivial⟩, ⟨by omega, by dsimp only; omega, by dsimp only; omega, hres, _, hI.next hi0 hne6_2 hM8 hk8 hnew8 hex8⟩, by dsimp only; omega⟩
    · have hr : isRemoved (rd D.F i) := by simpa using hc
      rw [if_pos hr] at hres
      refine WC.skip (WC.region ?_)
      refine cO (adI ?_)
      refine mvO ?_
      refine WO.nil ?_
      exact ⟨rfl, (i + 1, vO, O), ⟨rfl, rfl, rfl, rfl, rfl, rfl, trivial⟩, ⟨by omega, by dsimp only; omega, by dsimp only; omega, hres, _, { hI with md := hM2, ok := fun x hx => (by have := hI.ok x hx; dsimp only; omega), ln := (by dsimp only; omega) }⟩, by dsimp only; omega⟩
  · rw [show D.n - i.toNat = 0 by omega] at hres
    simp only [orderM] at hres
    subst hres
    have hi : i = D.n := by omega
    subst hi
    refine WC.exit (WC.seq ?_)
    refine WC.region ?_
    refine asO ?_
    refine WO.nil ?_
    refine WC.seq (WC.region ?_)
    refine cO (SV.makeMapM (by assumption) (fun a9_0 s9_0 hf9_0 hne9_0 hn9_0 hM9_0 => ?_))
    refine asO ?_
    refine WO.nil ?_
    refine WC.seq (WC.seq (WC.region ?_))
    refine asO ?_
    refine WO.nil ?_
    refine WC.block ?_
    have hkpH := hI.kp
    have hT1 : TextH H1 D := hT.grow hkpH
    have hok := hI.ok
    have hln := hI.ln
    have hslE := hI.sl
    have hslO := hI.sl.toO
    rw [List.length_map] at hslO
    have hne9 : ∀ ν o, H1 ν = some o → ν ≠ a9_0 := hne9_0
    have hI0 : SeqsI ro s9_0 H1 (H1.up a9_0 (.map (encM []))) D.t a9_0 [] (.slice none 0 0) [] (fun _ => none) :=
      { md := hM9_0, kp := fun ν o e => Hp.up_fresh hne9 e, mp := Hp.up_same, am0 := hne9, mg := fun _ => rfl, gl := fun _ _ h => (by cases h), out := .inl ⟨rfl, rfl⟩, no := fun _ _ _ h => (by cases h), rc := fun i h => absurd h (by simp), nq := fun i h => absurd h (by simp), dq := fun i j h => absurd h (by simp), dv := fun i j h => absurd h (by simp) }
    generalize hRES : seqsM D.F D.L D.M D.b O (O.length + 1) 0 [] (fun _ => none) = RES
    generalize a9_0 = am at hI0 ⊢
    clear hM9_0 hI hM1 hf1
    refine WC.loop (D := Int × Value × List SQ × (Int → Option Nat)) (fun x => [(0, .pointer (some ⟨D.t, 0, none⟩)), (2, .slice none 0 0), (3, vO), (6, x.2.1), (7, .map (some am)), (8, .int .i64 x.1)])
      (fun x s2 => s.next ≤ s2.next ∧ 0 ≤ x.1 ∧ x.1 ≤ O.length ∧ (∃ n, O.length + 1 - x.1.toNat ≤ n ∧ seqsM D.F D.L D.M D.b O n x.1 (x.2.2.1.map seE) x.2.2.2 = RES) ∧ SeqsL D.n x.2.2.1 x.1 ∧ ∃ Lm H2, SeqsI ro s2 H1 H2 D.t am Lm x.2.1 x.2.2.1 x.2.2.2)
      (fun x => O.length - x.1.toNat) (0, .slice none 0 0, [], fun _ => none) ?_ ⟨by omega, Int.le_refl _, by simp, ⟨_, Nat.le_refl _, hRES⟩, ⟨by simp, fun i h => absurd h (by simp)⟩, _, _, hI0⟩ ?_
    · exact ⟨rfl, rfl, rfl, rfl, rfl, rfl, trivial⟩
    clear hI0
    rintro ⟨k, vo, R, G⟩ g s2 ⟨hn2, hk0, hk1, ⟨n, hn, hres⟩, hL, Lm, H2, hI⟩
    dsimp only at hn2 hk0 hk1 hn hres hL hI ⊢
    have hM2 := hI.md
    obtain ⟨n, rfl⟩ : ∃ m, n = m + 1 := ⟨n - 1, by omega⟩
    rw [seqsM] at hres
    have hsl2 : SlO H2 vO 1 O.length (O.map (.int .i64)) := SlO.keep hslO fun ν o _ e => hI.kp ν o e
    refine WC.seq (WC.seq (WC.region ?_))
    refine mvO ?_
    refine cO (SV.move ?_)
    refine cO (SV.lenO rfl rfl (by assumption) ?_)
    refine cO (SV.lss rfl rfl ?_)
    refine WO.nil ?_
    refine WC.condD rfl (fun hk hkb => ?_) (fun hk hkb => ?_)
    · rw [if_pos hk] at hres
      obtain ⟨ao, rfl, hao⟩ : ∃ ao, vO = .slice (some ⟨ao, 0, none⟩) O.length O.length ∧ H1 ao = some (.row 1 (O.map (.int .i64))) := by
        rcases hslE with ⟨_, h0⟩ | ⟨h0, ao, h1, h2⟩
        · rw [List.map_eq_nil_iff] at h0; rw [h0] at hk; simp at hk; omega
        · rw [List.length_map] at h1; exact ⟨ao, h1, h2⟩
      have hJ0 := runEnd_gt (F := D.F) (L := D.L) (O := O) (k := k) (r := O.length - k.toNat) (by omega)
      have hJ1 := (runEnd_ge (F := D.F) (L := D.L) (O := O) (k := k) (O.length - k.toNat) k).2
      generalize hJ : runEnd D.F D.L O k (O.length - k.toNat) k = J at hres hJ0 hJ1
      have hT2 : TextH H2 D := hT1.grow hI.kp
      obtain ⟨e2, cc2, cf2, cw2, cl2, cm2, ht2⟩ := hT2.t
      have hao2 := hI.kp _ _ hao
      have hf2 := hT2.f
      have hl2 := hT2.l
      have hm2 := hT2.m
      have hnL := hT2.nL
      have hnM := hT2.nM
      have hat : ∀ j : Int, 0 ≤ j → j < O.length → 0 ≤ rd O j ∧ rd O j < D.n := fun j a b => by
        refine hok _ ?_
        unfold rd
        rw [List.getD_eq_getElem?_getD, List.getElem?_eq_getElem (by omega)]
        exact List.getElem_mem _
      refine WC.skip (WC.block (WC.seq (WC.region ?_)))
      refine mvO ?_
      refine asO ?_
      refine WO.nil ?_
      refine WC.seq (WC.block ?_)
      refine WC.mono (Q := fun e g' ds' s' => e = .exit 4 ∧ ds' = [] ∧ holds g' [(0, .pointer (some ⟨D.t, 0, none⟩)), (2, .slice none 0 0), (3, .slice (some ⟨ao, 0, none⟩) O.length O.length), (6, vo), (7, .map (some am)), (8, .int .i64 k), (9, .int .i64 J)] ∧ s.next ≤ s'.next ∧ Models ro s' H2) ?_ ?_
      refine WC.loop (D := Int) (fun x => [(0, .pointer (some ⟨D.t, 0, none⟩)), (2, .slice none 0 0), (3, .slice (some ⟨ao, 0, none⟩) O.length O.length), (6, vo), (7, .map (some am)), (8, .int .i64 k), (9, .int .i64 x)])
        (fun x s3 => s.next ≤ s3.next ∧ Models ro s3 H2 ∧ k ≤ x ∧ x ≤ O.length ∧ runEnd D.F D.L O k (O.length - x.toNat) x = J) (fun x => O.length - x.toNat) k ?_ ⟨hn2, hM2, Int.le_refl _, hk1, hJ⟩ ?_
      · exact ⟨rfl, rfl, rfl, rfl, rfl, rfl, rfl, trivial⟩
      · rintro j g3 s3 ⟨hn3, hM3, hj0, hj1, hresj⟩
        have hatk := hat k hk0 hk
        by_cases hjl : j < O.length
        · have hjlb : decide (j < ↑O.length) = true := decide_eq_true hjl
          have hatj := hat j (by omega) hjl
          have hatj1 : k < j → 0 ≤ rd O (j - 1) ∧ rd O (j - 1) < D.n := fun h => hat (j - 1) (by omega) (by omega)
          rw [show O.length - j.toNat = (O.length - (j + 1).toNat) + 1 by omega] at hresj
          simp only [runEnd] at hresj
          refine WC.seq (WC.seq ?_)
          refine WC.dr [0, 1, 2, 3, 4, 5, 6, 7, 8, 9, 10, 11, 12, 13, 14, 15, 16, 17, 18, 19, 20, 21, 22, 23, 24, 25, 26, 27, 28, 29, 30, 31, 32, 33, 34, 35, 36, 37, 38, 39, 40, 41, 42, 43, 44, 45] ?_
          refine mvD ?_
          refine mvD ?_
          refine cD (SV.len rfl rfl ?_)
          refine cD (SV.lss rfl rfl ?_)
          refine mvD ?_
          refine gyD (SV.moveV (by constructor) ?_)
          all_goals refine gyD (SV.nilPtr rfl ?_)
          all_goals refine gyD (SV.fieldAddr rfl ?_)
          all_goals refine gyD (ldM ?_)
          all_goals refine gyD (SV.moveV (by constructor) ?_)
          all_goals refine gyD (SV.moveV (by constructor) ?_)
          all_goals refine gyD (SV.indexAddr rfl rfl (by omega) ?_)
          all_goals refine gyD (ldI ?_)
          all_goals refine gyD (SV.indexAddr rfl rfl (by omega) ?_)
          all_goals refine gyD (ldI ?_)
          all_goals refine gyD (SV.moveV (by constructor) ?_)
          all_goals refine gyD (SV.nilPtr rfl ?_)
          all_goals refine gyD (SV.fieldAddr rfl ?_)
          all_goals refine gyD (ldM ?_)
          all_goals refine gyD (SV.moveV (by constructor) ?_)
          all_goals refine gyD (SV.moveV (by constructor) ?_)
          all_goals refine gyD (SV.indexAddr rfl rfl (by omega) ?_)
          all_goals refine gyD (ldI ?_)
          all_goals refine gyD (SV.indexAddr rfl rfl (by omega) ?_)
          all_goals refine gyD (ldI ?_)
          all_goals refine gyD (SV.eqlI rfl rfl ?_)
          all_goals refine cD (pT ?_)
          all_goals refine mvD ?_
          all_goals refine WD.guardDT rfl rfl rfl (fun hg13_28 hh13_28 => SV.moveV (by constructor) ?_) (fun hg13_28 hh13_28 => ?_) (by decide)
          all_goals (first | refine gyD (SV.moveV (by constructor) ?_) | refine gnD ?_)
          all_goals (first | refine gyD (SV.eqlI rfl rfl ?_) | refine gnD ?_)
          all_goals (first | refine gyD (SV.moveV (by constructor) ?_) | refine gnD ?_)
          all_goals (first | refine guD ?_ | refine WD.guardDF rfl rfl rfl (fun hg13_32 hh13_32 => SV.moveV (by constructor) ?_) (fun hg13_32 hh13_32 => ?_) (by decide))
          all_goals (first | refine gyD (SV.nilPtr rfl ?_) | refine gnD ?_ | refine guD ?_)
          all_goals (first | refine gyD (SV.fieldAddr rfl ?_) | refine gnD ?_ | refine guD ?_)
          all_goals (first | refine gyD (ldM ?_) | refine gnD ?_ | refine guD ?_)
          all_goals (first | refine gyD (SV.moveV (by constructor) ?_) | refine gnD ?_ | refine guD ?_)
          all_goals (first | refine gyD (SV.moveV (by constructor) ?_) | refine gnD ?_ | refine guD ?_)
          all_goals (first | refine gyD (sbI ?_) | refine gnD ?_ | refine guD ?_)
          all_goals (first | refine gyD (SV.indexAddr rfl rfl (by omega) ?_) | refine gnD ?_ | refine guD ?_)
          all_goals (first | refine gyD (ldI ?_) | refine gnD ?_ | refine guD ?_)
          all_goals (first | refine gyD (SV.indexAddr rfl rfl (by omega) ?_) | refine gnD ?_ | refine guD ?_)
          all_goals (first | refine gyD (ldI ?_) | refine gnD ?_ | refine guD ?_)
          all_goals (first | refine gyD (SV.neqI rfl rfl ?_) | refine gnD ?_ | refine guD ?_)
          all_goals (first | refine gyD (pT ?_) | refine gyD (pF ?_) | refine gnD ?_)
          all_goals (first | refine cD (pT ?_) | refine cD (pF ?_))
          all_goals refine WD.nil ?_
          · skip
            refine WC.condD rfl (fun hx hxb => ?_) (fun hx hxb => ?_)
            · rw [if_pos (by omega)] at hresj
              refine WC.skip (WC.block (WC.region ?_))
              refine mvO ?_
              refine cO (adI ?_)
              refine asO ?_
              refine WO.nil ?_
              exact ⟨rfl, j + 1, ⟨rfl, rfl, rfl, rfl, rfl, rfl, rfl, trivial⟩, ⟨by omega, hM3, by omega, by omega, hresj⟩, by omega⟩
            · rw [if_neg (by omega)] at hresj
              subst hresj
              refine WC.exit ?_
              exact ⟨rfl, rfl, ⟨rfl, rfl, rfl, rfl, rfl, rfl, rfl, trivial⟩, by omega, hM3⟩
          · rw [if_pos (by omega)] at hresj
            refine WC.condT rfl (by rfl) (WC.skip (WC.block ?_))
            refine WC.region ?_
            refine mvO ?_
            refine cO (adI ?_)
            refine asO ?_
            refine WO.nil ?_
            exact ⟨rfl, j + 1, ⟨rfl, rfl, rfl, rfl, rfl, rfl, rfl, trivial⟩, ⟨by omega, hM3, by omega, by omega, hresj⟩, by omega⟩
          · rw [if_neg (by omega)] at hresj
            subst hresj
            refine WC.condF rfl (by rfl) (WC.exit ?_)
            exact ⟨rfl, rfl, ⟨rfl, rfl, rfl, rfl, rfl, rfl, rfl, trivial⟩, by omega, hM3⟩
        · have hjlb : decide (j < ↑O.length) = false := decide_eq_false hjl
          rw [show O.length - j.toNat = 0 by omega] at hresj
          simp only [runEnd] at hresj
          subst hresj
          refine WC.seq (WC.seq ?_)
          refine WC.dr [0, 1, 2, 3, 4, 5, 6, 7, 8, 9, 10, 11, 12, 13, 14, 15, 16, 17, 18, 19, 20, 21, 22, 23, 24, 25, 26, 27, 28, 29, 30, 31, 32, 33, 34, 35, 36, 37, 38, 39, 40, 41, 42, 43, 44, 45] ?_
          refine mvD ?_
          refine mvD ?_
          refine cD (SV.len rfl rfl ?_)
          refine cD (SV.lss rfl rfl ?_)
          refine mvD ?_
          refine gnD ?_
          all_goals refine gnD ?_
          all_goals refine gnD ?_
          all_goals refine gnD ?_
          all_goals refine gnD ?_
          all_goals refine gnD ?_
          all_goals refine gnD ?_
          all_goals refine gnD ?_
          all_goals refine gnD ?_
          all_goals refine gnD ?_
          all_goals refine gnD ?_
          all_goals refine gnD ?_
          all_goals refine gnD ?_
          all_goals refine gnD ?_
          all_goals refine gnD ?_
          all_goals refine gnD ?_
          all_goals refine gnD ?_
          all_goals refine gnD ?_
          all_goals refine gnD ?_
          all_goals refine gnD ?_
          all_goals refine gnD ?_
          all_goals refine cD (pF ?_)
          all_goals refine mvD ?_
          all_goals refine WD.guardN rfl rfl rfl (by rfl) ?_ (by decide)
          all_goals refine WD.guardN rfl rfl rfl (by rfl) ?_ (by decide)
          all_goals refine WD.guardN rfl rfl rfl (by rfl) ?_ (by decide)
          all_goals refine WD.guardN rfl rfl rfl (by rfl) ?_ (by decide)
          all_goals refine guD ?_
          all_goals refine guD ?_
          all_goals refine guD ?_
          all_goals refine guD ?_
          all_goals refine guD ?_
          all_goals refine guD ?_
          all_goals refine guD ?_
          all_goals refine guD ?_
          all_goals refine guD ?_
          all_goals refine guD ?_
          all_goals refine guD ?_
          all_goals refine guD ?_
          all_goals refine WD.guardN rfl rfl rfl (by rfl) ?_ (by decide)
          all_goals refine cD (SV.pickFV rfl (by rfl) (by constructor) ?_)
          all_goals refine WD.nil ?_
          refine WC.condF rfl (by rfl) (WC.exit ?_)
          exact ⟨rfl, rfl, ⟨rfl, rfl, rfl, rfl, rfl, rfl, rfl, trivial⟩, by omega, hM3⟩
      rintro e g3 ds3 s3 ⟨rfl, rfl, hg3, hn3, hM3⟩
      rw [← over_same hg3]
      refine WC.seq (WC.region ?_)
      refine mvO ?_
      refine mvO ?_
      refine mvO ?_
      refine cO ?_
      refine SV.slicePart hM3 rfl hao2 rfl rfl ⟨hk0, by omega, by omega⟩ ?_
      refine asO ?_
      refine WO.nil ?_
      refine WC.seq (WC.region ?_)
      refine mvO ?_
      refine cO (SV.nilPtr rfl ?_)
      refine cO (SV.fieldAddr rfl ?_)
      refine cO (ldM ?_)
      refine asO ?_
      refine WO.nil ?_
      refine WC.seq ?_
      refine WC.mono (Q := fun e g' ds' s' => e = .normal ∧ ds' = [] ∧ holds g' [(0, .pointer (some ⟨D.t, 0, none⟩)), (2, .slice none 0 0), (3, .slice (some ⟨ao, 0, none⟩) O.length O.length), (6, vo), (7, .map (some am)), (8, .int .i64 k), (9, .int .i64 J),
        (10, .slice (some ⟨ao, k.toNat * 1, none⟩) (J.toNat - k.toNat) (O.length - k.toNat)), (11, .int .i64 (beforeM D.F D.L D.b O k))] ∧ s.next ≤ s'.next ∧ Models ro s' H2) ?_ ?_
      · by_cases h0 : 0 < k
        · have h0b : decide (0 < k) = true := decide_eq_true h0
          have hatk1 := hat (k - 1) (by omega) (by omega)
          refine WC.seq ?_
          refine WC.dr [0, 1, 2, 3, 4, 5, 6, 7, 8, 9, 10, 11, 12, 13, 14, 15] ?_
          refine mvD ?_
          refine cD (SV.gtr rfl rfl ?_)
          refine mvD ?_
          refine gyD (SV.moveV (by constructor) ?_)
          all_goals refine gyD (SV.nilPtr rfl ?_)
          all_goals refine gyD (SV.fieldAddr rfl ?_)
          all_goals refine gyD (ldM ?_)
          all_goals refine gyD (SV.moveV (by constructor) ?_)
          all_goals refine gyD (SV.moveV (by constructor) ?_)
          all_goals refine gyD (sbI ?_)
          all_goals refine gyD (SV.indexAddr rfl rfl (by omega) ?_)
          all_goals refine gyD (ldI ?_)
          all_goals refine gyD (SV.indexAddr rfl rfl (by omega) ?_)
          all_goals refine gyD (ldI ?_)
          all_goals refine gyD (SV.neqI rfl rfl ?_)
          all_goals refine cD (pT ?_)
          all_goals refine WD.nil ?_
          refine thn_n ?_
          refine WC.condD rfl (fun hb hbb => ?_) (fun hb hbb => ?_)
          · have e1 : beforeM D.F D.L D.b O k = rd D.L (rd O (k - 1)) := if_pos ⟨h0, hb⟩
            rw [e1]
            refine WC.dr [0, 1, 2, 3, 4, 5, 6, 7, 8, 9, 10, 11] ?_
            refine mvD ?_
            refine cD (SV.nilPtr rfl ?_)
            refine cD (SV.fieldAddr rfl ?_)
            refine cD (ldM ?_)
            refine mvD ?_
            refine mvD ?_
            refine cD (sbI ?_)
            refine cD (SV.indexAddr rfl rfl (by omega) ?_)
            refine cD (ldI ?_)
            refine cD (SV.indexAddr rfl rfl (by omega) ?_)
            refine cD (ldI ?_)
            refine asD ?_
            refine WD.nil ?_
            exact ⟨rfl, rfl, ⟨rfl, rfl, rfl, rfl, rfl, rfl, rfl, rfl, rfl, trivial⟩, by omega, hM3⟩
          · have e1 : beforeM D.F D.L D.b O k = D.b := if_neg (fun h => hb h.2)
            rw [e1]
            refine WC.skip ?_
            exact ⟨rfl, rfl, ⟨rfl, rfl, rfl, rfl, rfl, rfl, rfl, rfl, rfl, trivial⟩, by omega, hM3⟩
        · have h0b : decide (0 < k) = false := decide_eq_false h0
          refine WC.seq ?_
          refine WC.dr [0, 1, 2, 3, 4, 5, 6, 7, 8, 9, 10, 11, 12, 13, 14, 15] ?_
          refine mvD ?_
          refine cD (SV.gtr rfl rfl ?_)
          refine mvD ?_
          refine gnD ?_
          all_goals refine gnD ?_
          all_goals refine gnD ?_
          all_goals refine gnD ?_
          all_goals refine gnD ?_
          all_goals refine gnD ?_
          all_goals refine gnD ?_
          all_goals refine gnD ?_
          all_goals refine gnD ?_
          all_goals refine gnD ?_
          all_goals refine gnD ?_
          all_goals refine gnD ?_
          all_goals refine cD (pF ?_)
          all_goals refine WD.nil ?_
          have e1 : beforeM D.F D.L D.b O k = D.b := if_neg (fun h => h0 h.1)
          rw [e1]
          refine thn_n ?_
          refine WC.condF rfl (by rfl) (WC.skip ?_)
          exact ⟨rfl, rfl, ⟨rfl, rfl, rfl, rfl, rfl, rfl, rfl, rfl, rfl, trivial⟩, by omega, hM3⟩
      clear hM3 hn3 hg3
      rintro e g4 ds4 s4 ⟨rfl, rfl, hg4, hn4, hM4⟩
      rw [← over_same hg4]
      have hfst : (O.map (Value.int .i64))[k.toNat * 1 + (0 : Int).toNat * 1]? = some (.int .i64 (rd O k)) := by
        rw [show k.toNat * 1 + (0 : Int).toNat * 1 = 0 + k.toNat * 1 by simp]
        exact ints_get0 (by omega) (by omega)
      have hlst : (O.map (Value.int .i64))[k.toNat * 1 + (((J.toNat - k.toNat : Nat) : Int) - 1).toNat * 1]? = some (.int .i64 (rd O (J - 1))) := by
        rw [show k.toNat * 1 + (((J.toNat - k.toNat : Nat) : Int) - 1).toNat * 1 = 0 + (J - 1).toNat * 1 by omega]
        exact ints_get0 (by omega) (by omega)
      have hatk := hat k hk0 hk
      refine WC.seq (WC.region ?_)
      refine mvO ?_
      refine mvO ?_
      refine cO (SV.indexAddr rfl rfl (by omega) ?_)
      refine cO (SV.loadM (by assumption) rfl (by assumption) (by assumption) ?_)
      refine cO ?_
      refine SV.lookupM hM4 rfl rfl hI.mp zero57 rfl ?_
      refine cO (SV.assign ?_)
      refine WO.nil ?_
      rw [hI.mg]
      refine WC.seq ?_
      refine WC.mono (Q := fun e g' ds' s' => e = .normal ∧ ds' = [] ∧ ∃ (R' : List SQ) (vo' : Value) (i : Nat) (hi : i < R'.length) (H3 : Hp), holds g' [(0, .pointer (some ⟨D.t, 0, none⟩)), (2, .slice none 0 0), (3, .slice (some ⟨ao, 0, none⟩) O.length O.length), (6, vo'), (7, .map (some am)), (8, .int .i64 k), (9, .int .i64 J),
        (10, .slice (some ⟨ao, k.toNat * 1, none⟩) (J.toNat - k.toNat) (O.length - k.toNat)), (12, ptrV R'[i].q)] ∧ s.next ≤ s'.next ∧ SeqsI ro s' H1 H3 D.t am Lm vo' R' G ∧
        seqsM D.F D.L D.M D.b O n J (stepE D.F D.L D.b O k J i (R'.map seE)) (openG D.F D.M O J i G) = RES ∧ (R'.length : Int) ≤ k + 1 ∧ ∀ j (h : j < R'.length), (R'[j].A.length : Int) ≤ k ∧ (j ≠ i → R'[j].A ≠ []) ∧ ∀ x ∈ R'[j].A, 0 ≤ x ∧ x < D.n) ?_ ?_
      · cases hG : G (rd O k) with
        | some i =>
          have hi := hI.gl _ _ hG
          rw [hG] at hres
          dsimp only at hres
          have hgd : R.getD i default = R[i] := by rw [List.getD_eq_getElem?_getD, List.getElem?_eq_getElem hi]; rfl
          simp only [Option.map_some, Option.getD_some, hgd]
          refine WC.seq (WC.region ?_)
          refine mvO ?_
          refine cO (SV.eqlPtrN Try.underlying57 rfl rfl ?_)
          refine WO.nil ?_
          refine thn_n ?_
          refine WC.condF rfl (by rfl) (WC.skip ?_)
          exact ⟨rfl, rfl, R, vo, i, hi, H2, ⟨rfl, rfl, rfl, rfl, rfl, rfl, rfl, rfl, rfl, trivial⟩, by omega, hI.step hM4, hres, by have := hL.ln; omega, fun j h => ⟨(hL.al j h).1, fun _ => (hL.al j h).2.1, (hL.al j h).2.2⟩⟩
        | none =>
          rw [hG] at hres
          dsimp only at hres
          simp only [Option.map_none, Option.getD_none]
          refine WC.seq (WC.region ?_)
          refine mvO ?_
          refine cO (SV.eqlPtrNN Try.underlying57 rfl rfl ?_)
          refine WO.nil ?_
          refine thn_n ?_
          refine WC.condT rfl (by rfl) (WC.seq ?_)
          refine WC.dr [0, 1, 2, 3, 4, 5, 6, 7, 8, 9, 10, 11, 12] ?_
          refine mvD ?_
          refine mvD ?_
          refine cD (SV.nilPtr rfl ?_)
          refine cD (SV.fieldAddr rfl ?_)
          refine cD (ldM ?_)
          refine mvD ?_
          refine cD (SV.indexAddr rfl rfl (by omega) ?_)
          refine cD (SV.loadM (by assumption) rfl (by assumption) (by assumption) ?_)
          refine cD (SV.indexAddr rfl rfl (by omega) ?_)
          refine cD (ldI ?_)
          refine cD (SV.build rfl ?_)
          refine cD (SV.boxM (by assumption) rfl (fun a21_11 s21_11 hf21_11 hne21_11 hn21_11 hM21_11 => ?_))
          refine asD ?_
          refine WD.nil ?_
          have hneq : ∀ ν o, H2 ν = some o → ν ≠ a21_11 := hne21_11
          have hM5 : Models ro s21_11 (H2.up a21_11 (.row 0 [.pointer (some ⟨D.t, 0, none⟩), .slice none 0 0, .int .i64 (rd D.L (rd O k)), .int .i64 0, .int .i64 0])) := hM21_11
          clear hM21_11
          generalize a21_11 = q at hM5 hneq ⊢
          refine thn_n ?_
          refine WC.seq (WC.region ?_)
          refine mvO ?_
          refine mvO ?_
          refine cO (SV.nilPtr rfl ?_)
          refine cO (SV.fieldAddr rfl ?_)
          refine cO (SV.loadM (by assumption) rfl (by exact Hp.up_same) (by rfl) ?_)
          refine mvO ?_
          refine cO (SV.max2 rfl rfl ?_)
          refine cO ?_
          refine SV.callM rfl rfl (direction_sp hX0 hM5) ?_
          rintro v s5 H5 hn5 hM6 ⟨rfl, rfl⟩
          refine cO (SV.nilPtr rfl ?_)
          refine cO (SV.fieldAddr rfl ?_)
          refine WO.cons0 (SV.storeV (by assumption) rfl (by constructor) (by exact Hp.up_same) (by (simp; done)) (fun s22_10 hn22_10 hM22_10 => ?_))
          refine WO.nil ?_
          rw [Hp.up_up] at hM22_10
          have hM7 : Models ro s22_10 (H2.up q (.row 0 (rowQ D.t ⟨q, .slice none 0 0, [], rd D.L (rd O k), maxI (rd D.L (rd O k)) (beforeM D.F D.L D.b O k) % 2, 0⟩))) := hM22_10
          generalize hr' : (⟨q, .slice none 0 0, [], rd D.L (rd O k), maxI (rd D.L (rd O k)) (beforeM D.F D.L D.b O k) % 2, 0⟩ : SQ) = r' at hM7
          clear hM22_10 hM5 hM6
          refine thn_n ?_
          refine WC.region ?_
          refine cO (SV.move ?_)
          refine mvO ?_
          refine cO (SV.buildSliceM (by assumption) rfl rfl (fun a23_2 s23_2 hf23_2 hne23_2 hn23_2 hM23_2 => ?_))
          refine cO ?_
          have e1 : r'.q = q := by rw [← hr']
          have e2 : r'.v = .slice none 0 0 := by rw [← hr']
          have e3 : r'.A = [] := by rw [← hr']
          have e4 : seE r' = newE D.F D.L D.b O k := by rw [← hr']; rfl
          have hne23 : ∀ ν o, (H2.up q (.row 0 (rowQ D.t r'))) ν = some o → ν ≠ a23_2 := hne23_2
          have k7 : ∀ ν o, H2 ν = some o → ((H2.up q (.row 0 (rowQ D.t r'))).up a23_2 (.row 1 [ptrV q])) ν = some o := fun ν o e => Hp.up_fresh hne23 (Hp.up_fresh hneq e)
          have hvo7 : SlO ((H2.up q (.row 0 (rowQ D.t r'))).up a23_2 (.row 1 [ptrV q])) vo 1 R.length (R.map fun r => ptrV r.q) := by
            have := hI.out.toO
            rw [List.length_map] at this
            exact SlO.keep this fun ν o _ e => k7 ν o e
          have hRl := hL.ln
          refine SV.appendM (t := 55) (u := 55) (e := 57) (e' := 57) (sz := 1) (sz' := 1) (n := R.length) (m := 1) (vs := R.map fun r => ptrV r.q) (xs := [ptrV q]) rfl (by assumption) rfl rfl hvo7
            (Src.row Hp.up_same rfl rfl (fun j v h => by rw [Nat.zero_add]; exact h)) rfl (by omega) (fun v8 s8 H8 hn8 hM8 hv8 hk8 hnew8 hex8 => ?_)
          refine cO (SV.assign ?_)
          refine WO.nil ?_
          have hvq : baseV vo ≠ some q := fun e => by
            obtain ⟨o, ho⟩ := hI.out.toO.base_some e
            exact hneq _ _ ho rfl
          have hlm : (R.map fun r => ptrV r.q).length = R.length := List.length_map _
          have hadd := hI.addR (r' := r') (es := 0) (vo' := v8) hM8 (fun μ o e e0 => hk8 μ o (k7 μ o e) e0)
            (by rw [e1]; cases e : H2 q with | none => rfl | some o => exact absurd rfl (hneq _ _ e))
            (by rw [e1]; exact hk8 _ _ (Hp.up_fresh hne23 Hp.up_same) hvq) e2 e3
            (by rw [e1]; exact SlE.app (m := 1) hI.out (by simp) rfl (by rw [hlm]; exact hex8))
            (fun μ e => by
              rcases hnew8 μ e with h | h
              · exact .inl h
              · right; cases e0 : H2 μ with | none => rfl | some o => rw [k7 μ o e0] at h; cases h)
          have hmap : (R ++ [r']).map seE = R.map seE ++ [newE D.F D.L D.b O k] := by rw [List.map_append, ← e4]; rfl
          have hlE : (R.map seE).length = R.length := List.length_map _
          rw [hlE] at hres
          have hget : (R ++ [r'])[R.length]'(by simp) = r' := by simp
          refine ⟨rfl, rfl, R ++ [r'], v8, R.length, by simp, H8, ⟨rfl, rfl, rfl, rfl, rfl, rfl, rfl, rfl, by rw [hget, e1]; rfl, trivial⟩, by omega, hadd, by rw [hmap]; exact hres, by rw [List.length_append, List.length_singleton]; omega, fun j h => ?_⟩
          by_cases hj : j < R.length
          · rw [List.getElem_append_left hj]
            exact ⟨(hL.al j hj).1, fun _ => (hL.al j hj).2.1, (hL.al j hj).2.2⟩
          · have hjl : j = R.length := by rw [List.length_append, List.length_singleton] at h; omega
            subst hjl
            rw [hget, e3]
            exact ⟨by simpa using hk0, fun h => absurd rfl h, fun x hx => by cases hx⟩
      clear hM4 hn4 hg4 hres hI hsl2 hL
      rintro e g5 ds5 s5 ⟨rfl, rfl, R', vo', i, hi, H3, hg5, hn5, hI, hres, hRl, hal⟩
      rw [← over_same hg5]
      refine thn_n ?_
      obtain ⟨⟨es, hq⟩, hsv⟩ := hI.rc i hi
      have hM5 := hI.md
      have hao3 := hI.kp _ _ hao
      have hpl : ((partI O k J).map (Value.int .i64)).length = (J.toNat - k.toNat) * 1 := by
        unfold partI
        rw [List.length_map, List.length_take, List.length_drop]; omega
      have hpn : (partI O k J).map (Value.int .i64) ≠ [] := fun e => by rw [e] at hpl; simp at hpl; omega
      have hsvO : SlO H3 R'[i].v 1 R'[i].A.length (R'[i].A.map (.int .i64)) := by
        have := hsv.toO
        rw [List.length_map] at this
        exact this
      have hAl := (hal i hi).1
      have hq5 : H3 R'[i].q = some (.row es [ptrV D.t, R'[i].v, .int .i64 R'[i].lv, .int .i64 R'[i].st, .int .i64 R'[i].en]) := hq
      refine WC.seq (WC.region ?_)
      refine mvO ?_
      refine mvO ?_
      refine cO (SV.nilPtr rfl ?_)
      refine cO (SV.fieldAddr rfl ?_)
      refine cO (ldM ?_)
      refine mvO ?_
      refine cO ?_
      refine SV.appendM (t := 23) (u := 23) (e := 3) (e' := 3) (sz := 1) (sz' := 1) (n := R'[i].A.length) (m := J.toNat - k.toNat) (vs := R'[i].A.map (.int .i64)) (xs := (partI O k J).map (.int .i64)) rfl (by assumption) rfl rfl hsvO
        (Src.row hao3 hpl (by rw [List.all_map]; exact List.all_eq_true.mpr (fun _ _ => rfl)) (fun j v h => by
          rw [List.getElem?_map] at h ⊢
          unfold partI at h
          rw [List.getElem?_take] at h
          split at h
          · rw [List.getElem?_drop] at h; simpa using h
          · simp at h)) rfl (by omega) (fun v8 s8 H8 hn8 hM8 hv8 hk8 hnew8 hex8 => ?_)
      have hq8 : H8 R'[i].q = some (.row es [ptrV D.t, R'[i].v, .int .i64 R'[i].lv, .int .i64 R'[i].st, .int .i64 R'[i].en]) := hk8 _ _ hq5 (hI.v_q hi hi)
      have hAlm : (R'[i].A.map (Value.int .i64)).length = R'[i].A.length := List.length_map _
      have hse8 := SlE.app (m := J.toNat - k.toNat) hsv hpn (by rw [hpl, Nat.mul_one]) (by rw [hAlm]; exact hex8)
      obtain ⟨a8, c8, rfl⟩ : ∃ a8 c8, v8 = .slice (some ⟨a8, 0, none⟩) c8 c8 := by
        rcases hse8 with ⟨_, h⟩ | ⟨_, a8, h, _⟩
        · exact absurd (List.append_eq_nil_iff.mp h).2 hpn
        · exact ⟨_, _, h⟩
      refine cO (SV.nilPtr rfl ?_)
      refine cO (SV.fieldAddr rfl ?_)
      refine WO.cons0 (SV.storeV (by assumption) rfl (by constructor) (by assumption) (by (simp; done)) (fun s24_9 hn24_9 hM24_9 => ?_))
      refine WO.nil ?_
      have hb8 : baseV (.slice (some ⟨a8, 0, none⟩) c8 c8) ≠ some R'[i].q := fun e => by
        rcases hnew8 _ e with h | h
        · exact hI.v_q hi hi h
        · rw [hq5] at h; cases h
      have hI2 := hI.setR hi (r' := ⟨R'[i].q, .slice (some ⟨a8, 0, none⟩) c8 c8, R'[i].A ++ partI O k J, R'[i].lv, R'[i].st, R'[i].en⟩) (es := es) hM24_9 (fun μ o e1 e2 e3 => Hp.up_ne e2 (hk8 _ _ e1 e3)) Hp.up_same rfl
        (by
          rw [List.map_append]
          exact SlE.keep hse8 (fun ν o e1 e2 => Hp.up_ne (fun e => hb8 (by rw [← e]; exact e1)) e2))
        (fun μ e => hnew8 μ e)
      generalize H8.up R'[i].q (.row es ([ptrV D.t, R'[i].v, .int .i64 R'[i].lv, .int .i64 R'[i].st, .int .i64 R'[i].en].set (0 + 1) (.slice (some ⟨a8, 0, none⟩) c8 c8))) = H9 at hI2
      clear hM24_9
      obtain ⟨R2, hR2⟩ : ∃ R2, R2 = R'.set i ⟨R'[i].q, .slice (some ⟨a8, 0, none⟩) c8 c8, R'[i].A ++ partI O k J, R'[i].lv, R'[i].st, R'[i].en⟩ := ⟨_, rfl⟩
      rw [← hR2] at hI2
      have hi2 : i < R2.length := by rw [hR2, List.length_set]; exact hi
      have hg2 : R2[i] = ⟨R'[i].q, .slice (some ⟨a8, 0, none⟩) c8 c8, R'[i].A ++ partI O k J, R'[i].lv, R'[i].st, R'[i].en⟩ := by
        subst hR2
        exact List.getElem_set_self _
      obtain ⟨⟨es9, hq9⟩, hsv9⟩ := hI2.rc i hi2
      rw [hg2] at hq9 hsv9
      have hq9' : H9 R'[i].q = some (.row es9 [ptrV D.t, .slice (some ⟨a8, 0, none⟩) c8 c8, .int .i64 R'[i].lv, .int .i64 R'[i].st, .int .i64 R'[i].en]) := hq9
      have hM9 := hI2.md
      have hao9 := hI2.kp _ _ hao
      have hT9 : TextH H9 D := hT1.grow hI2.kp
      obtain ⟨e9, cc9, cf9, cw9, cl9, cm9, ht9⟩ := hT9.t
      have hf9 := hT9.f
      have hl9 := hT9.l
      have hm9 := hT9.m
      have hatJ := hat (J - 1) (by omega) (by omega)
      refine WC.seq (WC.region ?_)
      refine mvO ?_
      refine mvO ?_
      refine cO (SV.len rfl rfl ?_)
      refine cO (sbI ?_)
      refine cO (SV.indexAddr rfl rfl (by omega) ?_)
      refine cO (SV.loadM (by assumption) rfl (by assumption) (by assumption) ?_)
      refine asO ?_
      refine WO.nil ?_
      refine thn_n ?_
      refine WC.seq (WC.region ?_)
      refine mvO ?_
      refine cO (SV.nilPtr rfl ?_)
      refine cO (SV.fieldAddr rfl ?_)
      refine cO (ldM ?_)
      refine asO ?_
      refine WO.nil ?_
      refine thn_n ?_
      refine WC.seq ?_
      refine WC.mono (Q := fun e g' ds' s' => e = .normal ∧ ds' = [] ∧ holds g' [(0, .pointer (some ⟨D.t, 0, none⟩)), (2, .slice none 0 0), (3, .slice (some ⟨ao, 0, none⟩) O.length O.length), (6, vo'), (7, .map (some am)), (9, .int .i64 J),
        (12, ptrV R'[i].q), (13, .int .i64 (rd O (J - 1))), (14, .int .i64 (afterM D.F D.L D.b O J))] ∧ s.next ≤ s'.next ∧ Models ro s' H9) ?_ ?_
      · by_cases hj : J < O.length
        · have hjb : decide (J < ↑O.length) = true := decide_eq_true hj
          have hatJ2 := hat J (by omega) hj
          refine WC.seq (WC.region ?_)
          refine mvO ?_
          refine mvO ?_
          refine cO (SV.len rfl rfl ?_)
          refine cO (SV.lss rfl rfl ?_)
          refine mvO ?_
          refine gyO (SV.moveV (by constructor) ?_)
          all_goals refine gyO (SV.nilPtr rfl ?_)
          all_goals refine gyO (SV.fieldAddr rfl ?_)
          all_goals refine gyO (ldM ?_)
          all_goals refine gyO (SV.moveV (by constructor) ?_)
          all_goals refine gyO (SV.indexAddr rfl rfl (by omega) ?_)
          all_goals refine gyO (ldI ?_)
          all_goals refine gyO ?_
          refine SV.callM rfl rfl (opener_sp' hX0 hM9) ?_
          rintro v s10 H10 hn10 hM10 ⟨rfl, rfl⟩
          refine gyO (SV.notD rfl ?_)
          all_goals refine cO (pT ?_)
          all_goals refine mvO ?_
          all_goals refine WO.guardDT rfl rfl rfl (fun hg27_16 hh27_16 => SV.moveV (by constructor) ?_) (fun hg27_16 hh27_16 => ?_) (by decide)
          all_goals (first | refine gyO (SV.nilPtr rfl ?_) | refine gnO ?_)
          all_goals (first | refine gyO (SV.fieldAddr rfl ?_) | refine gnO ?_)
          all_goals (first | refine gyO (ldM ?_) | refine gnO ?_)
          all_goals (first | refine gyO (SV.moveV (by constructor) ?_) | refine gnO ?_)
          all_goals (first | refine gyO (SV.indexAddr rfl rfl (by omega) ?_) | refine gnO ?_)
          all_goals (first | refine gyO (ldI ?_) | refine gnO ?_)
          all_goals (first | refine gyO (SV.neqI rfl rfl ?_) | refine gnO ?_)
          all_goals (first | refine cO (pT ?_) | refine cO (pF ?_))
          all_goals refine WO.nil ?_
          · refine thn_n ?_
            refine WC.condD rfl (fun hx hxb => ?_) (fun hx hxb => ?_)
            · have e1 : afterM D.F D.L D.b O J = rd D.L (rd O J) := if_pos ⟨hj, hg27_16, hx⟩
              rw [e1]
              refine WC.dr [0, 1, 2, 3, 4, 5, 6, 7, 8, 9, 10] ?_
              refine mvD ?_
              refine cD (SV.nilPtr rfl ?_)
              refine cD (SV.fieldAddr rfl ?_)
              refine cD (ldM ?_)
              refine mvD ?_
              refine mvD ?_
              refine cD (SV.indexAddr rfl rfl (by omega) ?_)
              refine cD (ldI ?_)
              refine cD (SV.indexAddr rfl rfl (by omega) ?_)
              refine cD (ldI ?_)
              refine asD ?_
              refine WD.nil ?_
              exact ⟨rfl, rfl, ⟨rfl, rfl, rfl, rfl, rfl, rfl, rfl, rfl, rfl, trivial⟩, by omega, hM10⟩
            · have e1 : afterM D.F D.L D.b O J = D.b := if_neg (fun h => hx h.2.2)
              rw [e1]
              refine WC.skip ?_
              exact ⟨rfl, rfl, ⟨rfl, rfl, rfl, rfl, rfl, rfl, rfl, rfl, rfl, trivial⟩, by omega, hM10⟩
          · have e1 : afterM D.F D.L D.b O J = D.b := if_neg (fun h => hg27_16 h.2.1)
            rw [e1]
            refine thn_n ?_
            refine WC.condF rfl (by rfl) (WC.skip ?_)
            exact ⟨rfl, rfl, ⟨rfl, rfl, rfl, rfl, rfl, rfl, rfl, rfl, rfl, trivial⟩, by omega, hM10⟩
        · have hjb : decide (J < ↑O.length) = false := decide_eq_false hj
          refine WC.seq (WC.region ?_)
          refine mvO ?_
          refine mvO ?_
          refine cO (SV.len rfl rfl ?_)
          refine cO (SV.lss rfl rfl ?_)
          refine mvO ?_
          refine gnO ?_
          all_goals refine gnO ?_
          all_goals refine gnO ?_
          all_goals refine gnO ?_
          all_goals refine gnO ?_
          all_goals refine gnO ?_
          all_goals refine gnO ?_
          all_goals refine gnO ?_
          refine gnO ?_
          all_goals refine cO (pF ?_)
          all_goals refine mvO ?_
          all_goals refine WO.guardN rfl rfl rfl (by rfl) ?_ (by decide)
          all_goals refine WO.guardN rfl rfl rfl (by rfl) ?_ (by decide)
          all_goals refine WO.guardN rfl rfl rfl (by rfl) ?_ (by decide)
          all_goals refine WO.guardN rfl rfl rfl (by rfl) ?_ (by decide)
          all_goals refine WO.guardN rfl rfl rfl (by rfl) ?_ (by decide)
          all_goals refine WO.guardN rfl rfl rfl (by rfl) ?_ (by decide)
          all_goals refine WO.guardN rfl rfl rfl (by rfl) ?_ (by decide)
          all_goals refine WO.guardN rfl rfl rfl (by rfl) ?_ (by decide)
          all_goals refine cO (SV.pickFV rfl (by rfl) (by constructor) ?_)
          all_goals refine WO.nil ?_
          refine thn_n ?_
          refine WC.condF rfl (by rfl) (WC.skip ?_)
          have e1 : afterM D.F D.L D.b O J = D.b := if_neg (fun h => hj h.1)
          rw [e1]
          exact ⟨rfl, rfl, ⟨rfl, rfl, rfl, rfl, rfl, rfl, rfl, rfl, rfl, trivial⟩, by omega, hM9⟩
      rintro e g11 ds11 s11 ⟨rfl, rfl, hg11, hn11, hM11⟩
      rw [← over_same hg11]
      refine thn_n ?_
      refine WC.seq (WC.region ?_)
      refine mvO ?_
      refine mvO ?_
      refine cO (SV.nilPtr rfl ?_)
      refine cO (SV.fieldAddr rfl ?_)
      refine cO (ldM ?_)
      refine mvO ?_
      refine cO (SV.max2 rfl rfl ?_)
      refine cO ?_
      refine SV.callM rfl rfl (direction_sp hX0 hM11) ?_
      rintro v s12 H12 hn12 hM12 ⟨rfl, rfl⟩
      refine cO (SV.nilPtr rfl ?_)
      refine cO (SV.fieldAddr rfl ?_)
      refine WO.cons0 (SV.storeV (by assumption) rfl (by constructor) (by assumption) (by (simp; done)) (fun s29_10 hn29_10 hM29_10 => ?_))
      refine WO.nil ?_
      have hI3 := hI2.setR hi2 (r' := ⟨R'[i].q, .slice (some ⟨a8, 0, none⟩) c8 c8, R'[i].A ++ partI O k J, R'[i].lv, R'[i].st, maxI R'[i].lv (afterM D.F D.L D.b O J) % 2⟩) (es := es9) hM29_10 (fun μ o e1 e2 e3 => Hp.up_ne (by rw [hg2] at e2; exact e2) e1)
        (by rw [hg2]; exact Hp.up_same) (by rw [hg2]) (hsv9.keep (fun ν o e1 e2 => Hp.up_ne (fun e => hb8 (by rw [← e]; exact e1)) e2)) (fun μ e => .inl (by rw [hg2]; exact e))
      generalize H12.up R'[i].q (.row es9 ([ptrV D.t, .slice (some ⟨a8, 0, none⟩) c8 c8, .int .i64 R'[i].lv, .int .i64 R'[i].st, .int .i64 R'[i].en].set (0 + 4) (.int .i64 ((if R'[i].lv < afterM D.F D.L D.b O J then afterM D.F D.L D.b O J else R'[i].lv) % 2)))) = H13 at hI3 hM29_10
      obtain ⟨r3, hr3⟩ : ∃ r3 : SQ, r3 = ⟨R'[i].q, .slice (some ⟨a8, 0, none⟩) c8 c8, R'[i].A ++ partI O k J, R'[i].lv, R'[i].st, maxI R'[i].lv (afterM D.F D.L D.b O J) % 2⟩ := ⟨_, rfl⟩
      rw [← hr3] at hI3
      obtain ⟨R3, hR3⟩ : ∃ R3, R3 = R2.set i r3 := ⟨_, rfl⟩
      rw [← hR3] at hI3
      have hR3' : R3 = R'.set i r3 := by rw [hR3, hR2, List.set_set]
      have hi3 : i < R3.length := by rw [hR3', List.length_set]; exact hi
      have hg3' : R3[i] = r3 := by
        subst hR3'
        exact List.getElem_set_self _
      have hmap3 : R3.map seE = stepE D.F D.L D.b O k J i (R'.map seE) := by
        have e : (R'.map seE).getD i default = seE R'[i] := by
          rw [List.getD_eq_getElem?_getD, List.getElem?_map, List.getElem?_eq_getElem hi]; rfl
        unfold stepE
        rw [e, hR3', List.map_set, hr3]; rfl
      have hL3 : SeqsL D.n R3 J := by
        refine ⟨by rw [hR3', List.length_set]; omega, fun j hj => ?_⟩
        have hj' : j < R'.length := by rw [hR3', List.length_set] at hj; exact hj
        have hpl2 : (partI O k J).length = J.toNat - k.toNat := by rw [List.length_map] at hpl; omega
        have e : R3[j] = if i = j then r3 else R'[j] := by
          subst hR3'
          exact List.getElem_set _
        rw [e]
        split
        · rw [hr3]
          dsimp only
          refine ⟨by rw [List.length_append, hpl2]; omega, fun h => ?_, fun x hx => ?_⟩
          · rw [(List.append_eq_nil_iff.mp h).2] at hpl2; simp at hpl2; omega
          · rcases List.mem_append.mp hx with hx | hx
            · exact (hal i hi).2.2 x hx
            · unfold partI at hx
              exact hok x (List.mem_of_mem_drop (List.mem_of_mem_take hx))
        · rename_i hne
          exact ⟨by have := (hal j hj').1; omega, (hal j hj').2.1 (Ne.symm hne), (hal j hj').2.2⟩
      rw [← hmap3] at hres
      clear hI2 hM9 hM11 hq9 hq9' hao9 hT9 ht9 hf9 hl9 hm9
      have hT13 : TextH H13 D := hT1.grow hI3.kp
      obtain ⟨e13, cc13, cf13, cw13, cl13, cm13, ht13⟩ := hT13.t
      have hf13 := hT13.f
      have hm13 := hT13.m
      have hM13 := hI3.md
      have hmp := hI3.mp
      refine thn_n ?_
      refine WC.seq (WC.seq (WC.region ?_))
      refine mvO ?_
      refine cO (SV.nilPtr rfl ?_)
      refine cO (SV.fieldAddr rfl ?_)
      refine cO (ldM ?_)
      refine mvO ?_
      refine cO (SV.indexAddr rfl rfl (by omega) ?_)
      refine cO (ldI ?_)
      refine cO ?_
      refine SV.callM rfl rfl (opener_sp' hX0 hM13) ?_
      rintro v s14 H14 hn14 hM14 ⟨rfl, rfl⟩
      refine mvO ?_
      refine WO.guardDT rfl rfl rfl (fun hg30_9 hh30_9 => SV.moveV (by constructor) ?_) (fun hg30_9 hh30_9 => ?_) (by decide)
      all_goals (first | refine gyO (SV.nilPtr rfl ?_) | refine gnO ?_)
      all_goals (first | refine gyO (SV.fieldAddr rfl ?_) | refine gnO ?_)
      all_goals (first | refine gyO (ldM ?_) | refine gnO ?_)
      all_goals (first | refine gyO (SV.moveV (by constructor) ?_) | refine gnO ?_)
      all_goals (first | refine gyO (SV.indexAddr rfl rfl (by omega) ?_) | refine gnO ?_)
      all_goals (first | refine gyO (ldI ?_) | refine gnO ?_)
      all_goals (first | refine gyO (SV.geq rfl rfl ?_) | refine gnO ?_)
      all_goals (first | refine cO (pT ?_) | refine cO (pF ?_))
      all_goals refine WO.nil ?_
      · refine thn_n ?_
        refine WC.condD rfl (fun hm hmb => ?_) (fun hm hmb => ?_)
        · have e1 : openG D.F D.M O J i G = fun x => if x = rd D.M (rd O (J - 1)) then some i else G x := if_pos ⟨hg30_9, hm⟩
          rw [e1] at hres
          refine WC.region ?_
          refine mvO ?_
          refine mvO ?_
          refine cO (SV.nilPtr rfl ?_)
          refine cO (SV.fieldAddr rfl ?_)
          refine cO (ldM ?_)
          refine mvO ?_
          refine cO (SV.indexAddr rfl rfl (by omega) ?_)
          refine cO (ldI ?_)
          refine mvO ?_
          refine WO.cons0 (SV.mapUpdateM (by assumption) rfl rfl rfl (by assumption) (fun s31_9 hn31_9 hM31_9 => ?_))
          refine WO.nil ?_
          have hI4 := hI3.put (s2 := s31_9) hi3 (k := rd D.M (rd O (J - 1))) (by rw [hg3', hr3]; exact hM31_9)
          refine thn_n ?_
          refine WC.region ?_
          refine mvO ?_
          refine asO ?_
          refine WO.nil ?_
          exact ⟨rfl, (J, vo', R3, fun x => if x = rd D.M (rd O (J - 1)) then some i else G x), ⟨rfl, rfl, rfl, rfl, rfl, rfl, trivial⟩, ⟨by omega, by dsimp only; omega, by dsimp only; omega, ⟨n, by dsimp only; omega, hres⟩, hL3, _, _, hI4⟩, by dsimp only; omega⟩
        · have e1 : openG D.F D.M O J i G = G := if_neg (fun h => hm h.2)
          rw [e1] at hres
          refine WC.skip (WC.region ?_)
          refine mvO ?_
          refine asO ?_
          refine WO.nil ?_
          exact ⟨rfl, (J, vo', R3, G), ⟨rfl, rfl, rfl, rfl, rfl, rfl, trivial⟩, ⟨by omega, by dsimp only; omega, by dsimp only; omega, ⟨n, by dsimp only; omega, hres⟩, hL3, Lm, _, hI3.step hM14⟩, by dsimp only; omega⟩
      · have e1 : openG D.F D.M O J i G = G := if_neg (fun h => hg30_9 h.1)
        rw [e1] at hres
        refine thn_n ?_
        refine WC.condF rfl (by rfl) (WC.skip ?_)
        refine WC.region ?_
        refine mvO ?_
        refine asO ?_
        refine WO.nil ?_
        exact ⟨rfl, (J, vo', R3, G), ⟨rfl, rfl, rfl, rfl, rfl, rfl, trivial⟩, ⟨by omega, by dsimp only; omega, by dsimp only; omega, ⟨n, by dsimp only; omega, hres⟩, hL3, Lm, _, hI3.step hM14⟩, by dsimp only; omega⟩
    · refine WC.exit (WC.seq ?_)
      rw [if_neg hk] at hres
      refine WC.region ?_
      refine cO (SV.move ?_)
      refine cO (SV.assign ?_)
      refine WO.nil ?_
      refine WC.ret ?_
      have hk2 : k ≤ D.n := by omega
      refine fin_one (e := .ret) (v := vo) rfl trivial rfl (by omega) hM2 ⟨R, s2, am, Lm, G, hI.weaken hkpH, ⟨by have := hL.ln; omega, fun i h => ⟨by have := (hL.al i h).1; omega, (hL.al i h).2⟩⟩, hres⟩
end Go.Proofs.Ythkklpegjcnjoaa

namespace Go.Proofs.Ythkklpegjcnjoaa
open Go.Ab
variable {X : CallE} {ro : Nat}
set_option maxRecDepth 10000
set_option linter.unusedVariables false
set_option linter.unusedSimpArgs false

def seqStepM (Y : Exts) (C F : List Int) (e : SE) (N L : List Int) : List Int × List Int :=
  let N1 := bracketsM Y C e.A F e.lv e.st (weakM e.A F e.st N)
  (restN e.A e.st e.en e.lv N1, bumpM e.A (restN e.A e.st e.en e.lv N1) e.lv e.A.length 0 L)
def seqAllM (Y : Exts) (C F : List Int) : List SE → List Int → List Int → List Int × List Int
  | [], N, L => (N, L)
  | e :: E, N, L => seqAllM Y C F E (seqStepM Y C F e N L).1 (seqStepM Y C F e N L).2

theorem baseM_range {F M : List Int} {b : Int} : ∀ (r : Nat) (i : Int), 0 ≤ baseM F M b r i ∧ baseM F M b r i ≤ 1
  | 0, _ => by simp [baseM]
  | r + 1, i => by
    simp only [baseM]
    repeat' split
    all_goals first | omega | exact baseM_range r _
def sdQ (r : SQ) : SD := ⟨r.q, (baseV r.v).getD 0, r.A, r.lv, r.st, r.en⟩
def bOf (b : Int) (F : List Int) : Int := if b < 0 then baseM F (matchesM F) F.length (F.length + 1) 0 else b

theorem expX_congr {D D' : TD} (hF : D.F = D'.F) (hM : D.M = D'.M) (hb : D.b = D'.b) (i : Int) (x : XS) : expX D i x = expX D' i x := by
  unfold expX openLevel openOdd
  rw [hF, hM, hb]
theorem expT_congr {D D' : TD} (hF : D.F = D'.F) (hM : D.M = D'.M) (hb : D.b = D'.b) (i : Int) (x : XS) : expT D i x = expT D' i x := by
  unfold expT
  rw [hF, hb]
theorem expM_congr {D D' : TD} (hF : D.F = D'.F) (hM : D.M = D'.M) (hb : D.b = D'.b) : ∀ (r : Nat) (i : Int) (x : XS) (L N : List Int), expM D r i x L N = expM D' r i x L N
  | 0, _, _, _, _ => rfl
  | r + 1, i, x, L, N => by
    simp only [expM, expL, expN, expX_congr hF hM hb, expT_congr hF hM hb]
    exact expM_congr hF hM hb r _ _ _ _
def pureD (F M : List Int) (b : Int) : TD := ⟨0, 0, 0, 0, 0, 0, F.length, [], F, F, [], M, b, fun _ => none⟩
def explM (F : List Int) (b : Int) : List Int × List Int := expM (pureD F (matchesM F) b) F.length 0 ⟨[(b, -1, false)], 0, 0, 0⟩ (List.replicate F.length 0) F
/-- Levels. -/
def levelsM (Y : Exts) (C : List Int) (b : Int) : List Int :=
  endsM (C.map Y.LB) (bOf b (C.map Y.LB)) (seqAllM Y C (C.map Y.LB) (sequencesM (C.map Y.LB) (explM (C.map Y.LB) (bOf b (C.map Y.LB))).1 (matchesM (C.map Y.LB)) (bOf b (C.map Y.LB))) (explM (C.map Y.LB) (bOf b (C.map Y.LB))).2 (explM (C.map Y.LB) (bOf b (C.map Y.LB))).1).2
theorem seqStepM_len {Y : Exts} {C F : List Int} {e : SE} {N L : List Int} : (seqStepM Y C F e N L).1.length = N.length ∧ (seqStepM Y C F e N L).2.length = L.length := by
  unfold seqStepM bracketsM
  dsimp only
  exact ⟨restN_length.trans ((bracM_length _ _).trans weakM_length), bumpM_length _ _ _⟩

set_option maxHeartbeats 8000000 in
theorem levels_spc {Y : Exts} {s : St} {H : Hp} {c cc : Nat} {C : List Int} {b : Int} (hX : ExtOk X ro Y) (hM : Models ro s H) (hc : H c = some (.row 1 (C.map (.int .i64)))) (hb : -1 ≤ b ∧ b ≤ 1) (hn : C.length ≤ 16384) :
    Sp X Try.prog ro 17 [.slice (some ⟨c, 0, none⟩) C.length cc, .int .i64 b] s fun v H' => ∃ l cl, v = .tuple #[Value.slice (some ⟨l, 0, none⟩) C.length (C.length + cl), .int .i64 0] ∧ (∀ ν o, H ν = some o → H' ν = some o ∧ ν ≠ l) ∧ H' l = some (.row 1 ((levelsM Y C b).map (.int .i64))) ∧ (levelsM Y C b).length = C.length := by
  have hX0 := hX.own
  refine Sp.of_body (hX.own _ _ _ (by decide) (by decide) (by decide) (by decide)) Try.func17 rfl Try.ntmps17 (by simp) ?_
  have hb1 : decide (b < -1) = false := decide_eq_false (by omega)
  have hb2 : decide (1 < b) = false := decide_eq_false (by omega)
  have hn2 : decide ((16384 : Int) < C.length) = false := decide_eq_false (by omega)
  refine WC.seq (WC.region ?_)
  refine asO ?_
  refine asO ?_
  refine WO.nil ?_
  refine WC.seq (WC.block (WC.seq (WC.region ?_)))
  refine mvO ?_
  refine cO (SV.lss rfl rfl ?_)
  refine mvO ?_
  refine gyO (SV.moveV (by constructor) ?_)
  all_goals refine gyO (SV.gtr rfl rfl ?_)
  all_goals refine cO (pF ?_)
  all_goals refine asO ?_
  all_goals refine WO.nil ?_
  refine WC.condF rfl (by assumption) (WC.seq ?_)
  refine WC.region ?_
  refine mvO ?_
  refine cO (SV.len rfl rfl ?_)
  refine cO (SV.gtr rfl rfl ?_)
  refine asO ?_
  refine WO.nil ?_
  refine WC.condF rfl (by assumption) (WC.skip (WC.seq ?_))
  refine WC.region ?_
  refine mvO ?_
  refine cO ?_
  refine SV.callM rfl rfl (classes_sp hX hM hc hn) ?_
  rintro v s1 H1 hn1 hM1 ⟨f, rfl, hfne, rfl⟩
  refine asO ?_
  refine WO.nil ?_
  have hFl : (C.map Y.LB).length = C.length := List.length_map _
  generalize hF : C.map Y.LB = F at hM1 hFl
  have hc1 : (H.up f (.row 1 (F.map (.int .i64)))) c = some (.row 1 (C.map (.int .i64))) := Hp.up_fresh hfne hc
  have hf1 : (H.up f (.row 1 (F.map (.int .i64)))) f = some (.row 1 (F.map (.int .i64))) := Hp.up_same
  generalize hH1 : H.up f (.row 1 (F.map (.int .i64))) = H1 at hM1 hc1 hf1
  refine WC.seq ?_
  refine WC.drawE (by assumption) [0, 1, 2, 3, 4, 5, 7, 8, 9, 6, 10, 11, 12] (by kernel_rfl) (by kernel_rfl) ?_
  refine WE.act (by kernel_rfl) (by assumption) (SV.moveV (by constructor) ⟨(by assumption), ?_⟩) (by decide)
  refine WE.act (by kernel_rfl) (by assumption) (SV.moveV (by constructor) ⟨(by assumption), ?_⟩) (by decide)
  refine WE.act (by kernel_rfl) (by assumption) (SV.moveV (by constructor) ⟨(by assumption), ?_⟩) (by decide)
  refine WE.act (by kernel_rfl) (by assumption) ?_ (by decide)
  refine SV.callM rfl rfl (clone_sp hX0 hM1 hf1 hFl hn) ?_
  rintro v s2 H2 hn2 hM2 ⟨w, rfl, hwne, rfl⟩
  have hM2b : Models ro s2 H1 := hM2.sub fun ν o e => Hp.up_fresh hwne e
  refine ⟨hM2b, ?_⟩
  have hc2 := Hp.up_fresh (x := .row 1 (F.map (.int .i64))) hwne hc1
  have hf2 := Hp.up_fresh (x := .row 1 (F.map (.int .i64))) hwne hf1
  have hw2 : (H1.up w (.row 1 (F.map (.int .i64)))) w = some (.row 1 (F.map (.int .i64))) := Hp.up_same
  refine WE.act (by kernel_rfl) (by assumption) (SV.moveV (by constructor) ⟨(by assumption), ?_⟩) (by decide)
  refine WE.read (St1.len rfl rfl) (by assumption) ?_ (by decide)
  refine WE.act (by kernel_rfl) (by assumption) (SV.moveV (by constructor) ⟨(by assumption), ?_⟩) (by decide)
  refine WE.act (by kernel_rfl) (by assumption) ?_ (by decide)
  have c36 := matches_sp (cf := C.length) hX0 hM2 hf2 (by omega)
  rw [hFl] at c36
  refine SV.callM rfl rfl c36 ?_
  rintro v s3 H3 hn3 hM3 ⟨m, rfl, hmne, rfl⟩
  have hM3b : Models ro s3 H1 := hM3.sub fun ν o e => Hp.up_fresh hmne (Hp.up_fresh hwne e)
  refine ⟨hM3b, ?_⟩
  have hc3 := Hp.up_fresh (x := .row 1 ((matchesM F).map (.int .i64))) hmne hc2
  have hf3 := Hp.up_fresh (x := .row 1 ((matchesM F).map (.int .i64))) hmne hf2
  have hw3 := Hp.up_fresh (x := .row 1 ((matchesM F).map (.int .i64))) hmne hw2
  have hm3 : ((H1.up w (.row 1 (F.map (.int .i64)))).up m (.row 1 ((matchesM F).map (.int .i64)))) m = some (.row 1 ((matchesM F).map (.int .i64))) := Hp.up_same
  generalize hH3 : (H1.up w (.row 1 (F.map (.int .i64)))).up m (.row 1 ((matchesM F).map (.int .i64))) = H3 at hM3 hc3 hf3 hw3 hm3
  refine WE.act (by kernel_rfl) (by assumption) (SV.moveV (by constructor) ⟨(by assumption), ?_⟩) (by decide)
  refine WE.act (by kernel_rfl) (by assumption) ?_ (by decide)
  refine SV.makeSliceM hM3 rfl rfl (by refine ⟨?_, ?_, ?_, ?_, rfl, by decide⟩ <;> omega) (fun l s4 hl0 hlne hn4 hM4 => ?_)
  have hkp3 : ∀ ν o, H1 ν = some o → H3 ν = some o := fun ν o e => by rw [← hH3]; exact Hp.up_fresh hmne (Hp.up_fresh hwne e)
  have hM4b : Models ro s4 H1 := hM4.sub (fun ν o e => Hp.up_fresh hlne (hkp3 ν o e))
  refine ⟨hM4b, ?_⟩
  rw [rep_ints] at hM4
  rw [Int.toNat_natCast] at hM4 ⊢
  refine WE.act (by kernel_rfl) (by assumption) (SV.build rfl ⟨(by assumption), ?_⟩) (by decide)
  refine WE.act (by kernel_rfl) (by assumption) ?_ (by decide)
  refine SV.boxM hM4 rfl (fun t s5 ht0 htne hn5 hM5 => ?_)
  have hM5b : Models ro s5 H1 := hM5.sub (fun ν o e => Hp.up_fresh htne (Hp.up_fresh hlne (hkp3 ν o e)))
  refine ⟨hM5b, ?_⟩
  refine WE.act (by kernel_rfl) (by assumption) (SV.assignV (by constructor) ⟨(by assumption), ?_⟩) (by decide)
  refine WE.nil ?_
  have hM6 : Models ro s5 ((H3.up l (.row 1 ((List.replicate C.length (0 : Int)).map (.int .i64)))).up t (.row 0 [.slice (some ⟨c, 0, none⟩) C.length cc, .slice (some ⟨f, 0, none⟩) C.length C.length, .slice (some ⟨w, 0, none⟩) C.length C.length, .slice (some ⟨l, 0, none⟩) C.length C.length, .slice (some ⟨m, 0, none⟩) C.length C.length, .int .i64 b])) := hM5
  clear hM5 hM5b hM4b hM4 hM3b hM2b
  have hkp1 : ∀ ν o, H ν = some o → H1 ν = some o := fun ν o e => by rw [← hH1]; exact Hp.up_fresh hfne e
  have mk : ∀ b', TextH ((H3.up l (.row 1 ((List.replicate C.length (0 : Int)).map (.int .i64)))).up t (.row 0 [.slice (some ⟨c, 0, none⟩) C.length cc, .slice (some ⟨f, 0, none⟩) C.length C.length, .slice (some ⟨w, 0, none⟩) C.length C.length, .slice (some ⟨l, 0, none⟩) C.length C.length, .slice (some ⟨m, 0, none⟩) C.length C.length, .int .i64 b']))
      ⟨t, c, f, w, l, m, C.length, C, F, F, List.replicate C.length 0, matchesM F, b', H⟩ := fun b' =>
    { t := ⟨0, cc, C.length, C.length, 0, C.length, Hp.up_same⟩, c := Hp.up_fresh htne (Hp.up_fresh hlne hc3), f := Hp.up_fresh htne (Hp.up_fresh hlne hf3), w := Hp.up_fresh htne (Hp.up_fresh hlne hw3), l := Hp.up_fresh htne Hp.up_same, m := Hp.up_fresh htne (Hp.up_fresh hlne hm3), nC := rfl, nF := hFl, nN := hFl, nL := List.length_replicate, nM := (by unfold matchesM; rw [matchM_length, List.length_replicate]; exact hFl), big := hn
      tw := (htne _ _ (Hp.up_fresh hlne hw3)).symm, cw := hwne _ _ hc1, fw := hwne _ _ hf1, lw := (hlne _ _ hw3).symm, mw := (hmne _ _ hw2).symm, tl := (htne _ _ Hp.up_same).symm, cl := hlne _ _ hc3, fl := hlne _ _ hf3, ml := hlne _ _ hm3, kp := fun ν o e => Hp.up_fresh htne (Hp.up_fresh hlne (hkp3 _ _ (hkp1 _ _ e))), bw := fun ν o e => ⟨hwne _ _ (hkp1 _ _ e), hlne _ _ (hkp3 _ _ (hkp1 _ _ e))⟩ }
  generalize hH5 : H3.up l (.row 1 ((List.replicate C.length (0 : Int)).map (.int .i64))) = H5 at hM6 mk
  have hT6 := mk b
  generalize hH6 : H5.up t (.row 0 [.slice (some ⟨c, 0, none⟩) C.length cc, .slice (some ⟨f, 0, none⟩) C.length C.length, .slice (some ⟨w, 0, none⟩) C.length C.length, .slice (some ⟨l, 0, none⟩) C.length C.length, .slice (some ⟨m, 0, none⟩) C.length C.length, .int .i64 b]) = H6 at hM6 hT6
  have ht6 : H6 t = some (.row 0 [.slice (some ⟨c, 0, none⟩) C.length cc, .slice (some ⟨f, 0, none⟩) C.length C.length, .slice (some ⟨w, 0, none⟩) C.length C.length, .slice (some ⟨l, 0, none⟩) C.length C.length, .slice (some ⟨m, 0, none⟩) C.length C.length, .int .i64 b]) := by rw [← hH6]; exact Hp.up_same
  have hb0 : 0 ≤ bOf b F ∧ bOf b F ≤ 1 := by
    unfold bOf
    split
    · exact baseM_range _ _
    · omega
  refine thn_n ?_
  refine WC.seq ?_
  refine WC.mono (Q := fun e g' ds' s' => e = .normal ∧ ds' = [] ∧ ∃ H7, holds g' [(4, .slice none 0 0), (5, .int .i64 0), (7, .pointer (some ⟨t, 0, none⟩))] ∧ s.next ≤ s'.next ∧ Models ro s' H7 ∧
    TextH H7 ⟨t, c, f, w, l, m, C.length, C, F, F, List.replicate C.length 0, matchesM F, bOf b F, H⟩) ?_ ?_
  · refine WC.seq (WC.region ?_)
    refine mvO ?_
    refine cO (SV.lss rfl rfl ?_)
    refine WO.nil ?_
    refine thn_n ?_
    refine WC.condD rfl (fun hb hbb => ?_) (fun hb hbb => ?_)
    · have e1 : bOf b F = baseM F (matchesM F) F.length (F.length + 1) 0 := if_pos hb
      rw [e1]
      have hf6 := hT6.f
      have hm6 := hT6.m
      refine WC.region ?_
      refine mvO ?_
      refine mvO ?_
      refine mvO ?_
      refine cO (SV.nilPtr rfl ?_)
      refine cO (SV.fieldAddr rfl ?_)
      refine cO (ldM ?_)
      refine mvO ?_
      refine cO (SV.len rfl rfl ?_)
      refine cO ?_
      refine SV.callM rfl rfl (base_sp' (a := 0) (b := C.length) hX0 hM6 hf6 hm6 hFl hT6.nM hn (matchesM_ok F) ⟨by omega, by omega, by omega⟩) ?_
      rintro v s7 H7 hn7 hM7 ⟨rfl, rfl⟩
      refine cO (SV.nilPtr rfl ?_)
      refine cO (SV.fieldAddr rfl ?_)
      refine WO.cons0 (SV.storeV (by assumption) rfl (by constructor) (by assumption) (by (simp; done)) (fun s8_11 hn8_11 hM8_11 => ?_))
      refine WO.nil ?_
      rw [← hH6, Hp.up_up] at hM8_11
      exact ⟨rfl, rfl, _, ⟨rfl, rfl, rfl, trivial⟩, by omega, hM8_11, by rw [hFl]; exact mk _⟩
    · have e1 : bOf b F = b := if_neg hb
      rw [e1]
      refine WC.skip ?_
      exact ⟨rfl, rfl, _, ⟨rfl, rfl, rfl, trivial⟩, by omega, hM6, hT6⟩
  rintro e g7 ds7 s7 ⟨rfl, rfl, H7, hg7, hn7, hM7, hT7⟩
  rw [← over_same hg7]
  refine thn_n ?_
  refine WC.seq (WC.region ?_)
  refine mvO ?_
  refine cO ?_
  refine SV.callM rfl rfl (explicit_sp hX0 hM7 hT7 (matchesM_ok F) hb0) ?_
  rintro v s8 H8 hn8 hM8 ⟨rfl, hT8⟩
  refine WO.nil ?_
  have eL : expM ⟨t, c, f, w, l, m, C.length, C, F, F, List.replicate C.length 0, matchesM F, bOf b F, H⟩ F.length 0 ⟨[(bOf b F, -1, false)], 0, 0, 0⟩ (List.replicate C.length 0) F = explM F (bOf b F) := by
    unfold explM
    rw [hFl]
    exact expM_congr (D := ⟨t, c, f, w, l, m, C.length, C, F, F, List.replicate C.length 0, matchesM F, bOf b F, H⟩) (D' := pureD F (matchesM F) (bOf b F)) rfl rfl rfl _ _ _ _ _
  dsimp only at hT8
  rw [eL] at hT8
  have hLv : levelsM Y C b = endsM F (bOf b F) (seqAllM Y C F (sequencesM F (explM F (bOf b F)).1 (matchesM F) (bOf b F)) (explM F (bOf b F)).2 (explM F (bOf b F)).1).2 := by unfold levelsM; rw [hF]
  generalize (explM F (bOf b F)).1 = L1 at hT8 hLv
  generalize (explM F (bOf b F)).2 = N1 at hT8 hLv
  refine thn_n ?_
  refine WC.seq (WC.seq (WC.region ?_))
  refine mvO ?_
  refine cO ?_
  refine SV.callM rfl rfl (sequences_sp hX hM8 hT8) ?_
  rintro vo s9 H9 hn9 hM9 ⟨R, s', am, Lm, G, hI, hL, hRm⟩
  have hlm : (R.map fun r => ptrV r.q).length = R.length := List.length_map _
  have hvoO : SlO H9 vo 1 R.length (R.map fun r => ptrV r.q) := by
    have := hI.out.toO
    rw [hlm] at this
    exact this
  refine cO (SV.lenO rfl rfl (by assumption) ?_)
  refine mvO ?_
  refine WO.nil ?_
  refine WC.block ?_
  have hT9 : TextH H9 (wN ⟨t, c, f, w, l, m, C.length, C, F, F, List.replicate C.length 0, matchesM F, bOf b F, H⟩ L1 N1) := hT8.grow hI.kp
  have hout := hI.out
  have hRl : (R.length : Int) ≤ C.length := hL.ln
  have hno : baseV vo ≠ some w ∧ baseV vo ≠ some l := ⟨hI.no _ _ hT8.w, hI.no _ _ hT8.l⟩
  have hS9 : ∀ j (hj : j < R.length), SeqH H9 (wN ⟨t, c, f, w, l, m, C.length, C, F, F, List.replicate C.length 0, matchesM F, bOf b F, H⟩ L1 N1) (sdQ R[j]) := fun j hj => by
    obtain ⟨⟨es, h1⟩, h2⟩ := hI.rc j hj
    obtain ⟨h3, h4, h5⟩ := hL.al j hj
    rcases h2 with ⟨_, h2⟩ | ⟨_, a, h6, h7⟩
    · exact absurd (List.map_eq_nil_iff.mp h2) h4
    have hba : (baseV R[j].v).getD 0 = a := by rw [h6]; rfl
    have hnb : ∀ ν o, H8 ν = some o → a ≠ ν := fun ν o e e2 => (hI.nq j hj ν o e).2 (by rw [h6, e2]; rfl)
    refine { q := ⟨es, R[j].A.length, ?_⟩, a := ⟨[], ?_⟩, ok := h5, big := (by have h8 : (R[j].A.length : Int) ≤ C.length := h3; show R[j].A.length ≤ C.length; omega), qw := ((hI.nq j hj _ _ hT8.w).1).symm, aw := ?_, ql := ((hI.nq j hj _ _ hT8.l).1).symm, al := ?_ }
    · show H9 R[j].q = _
      rw [h1]
      unfold rowQ sdQ
      dsimp only
      rw [hba, h6, List.length_map]
      rfl
    · show H9 ((baseV R[j].v).getD 0) = _
      rw [hba, List.append_nil]; exact h7
    · show (baseV R[j].v).getD 0 ≠ _
      rw [hba]; exact hnb _ _ hT8.w
    · show (baseV R[j].v).getD 0 ≠ _
      rw [hba]; exact hnb _ _ hT8.l
  have hRm' : R.map seE = sequencesM F L1 (matchesM F) (bOf b F) := hRm
  rw [← hRm'] at hLv
  generalize hRES : seqAllM Y C F (R.map seE) N1 L1 = RES at hLv
  refine WC.loop (D := Int × List Int × List Int) (fun x => [(4, .slice none 0 0), (5, .int .i64 0), (7, .pointer (some ⟨t, 0, none⟩)), (51, vo), (52, .int .i64 R.length), (53, .int .i64 x.1)])
    (fun x s1 => s.next ≤ s1.next ∧ 0 ≤ x.1 ∧ x.1 ≤ R.length ∧ seqAllM Y C F ((R.map seE).drop x.1.toNat) x.2.1 x.2.2 = RES ∧ ∃ HH, Models ro s1 HH ∧ TextH HH (wN ⟨t, c, f, w, l, m, C.length, C, F, F, List.replicate C.length 0, matchesM F, bOf b F, H⟩ x.2.2 x.2.1) ∧
      (∀ j (hj : j < R.length), SeqH HH (wN ⟨t, c, f, w, l, m, C.length, C, F, F, List.replicate C.length 0, matchesM F, bOf b F, H⟩ x.2.2 x.2.1) (sdQ R[j])) ∧ SlE HH vo (R.map fun r => ptrV r.q))
    (fun x => R.length - x.1.toNat) (0, N1, L1) ?_ ⟨by omega, Int.le_refl _, by simp, hRES, H9, hM9, hT9, hS9, hout⟩ ?_
  · exact ⟨rfl, rfl, rfl, rfl, rfl, rfl, trivial⟩
  rintro ⟨i, N, L⟩ g10 s10 ⟨hn10, hi0, hi1, hres, HH, hM10, hT10, hS10, hsl10⟩
  dsimp only at hn10 hi0 hi1 hres hM10 hT10 hS10 ⊢
  refine WC.seq (WC.region ?_)
  refine cO (SV.lss rfl rfl ?_)
  refine WO.nil ?_
  refine WC.seq ?_
  refine WC.condD rfl (fun hlt hltb => ?_) (fun hlt hltb => ?_)
  · have hj : i.toNat < R.length := by omega
    obtain ⟨av, rfl, hav⟩ : ∃ av, vo = .slice (some ⟨av, 0, none⟩) R.length R.length ∧ HH av = some (.row 1 (R.map fun r => ptrV r.q)) := by
      rcases hsl10 with ⟨_, h⟩ | ⟨_, a, h1, h2⟩
      · rw [List.map_eq_nil_iff] at h; rw [h] at hj; simp at hj
      · rw [hlm] at h1; exact ⟨a, h1, h2⟩
    have hget : (R.map fun r => ptrV r.q)[0 + i.toNat * 1]? = some (ptrV R[i.toNat].q) := by
      rw [show 0 + i.toNat * 1 = i.toNat by omega, List.getElem?_map, List.getElem?_eq_getElem hj]; rfl
    have hdrop : (R.map seE).drop i.toNat = seE R[i.toNat] :: (R.map seE).drop (i + 1).toNat := by
      rw [List.drop_eq_getElem_cons (by rw [List.length_map]; exact hj), List.getElem_map, show i.toNat + 1 = (i + 1).toNat by omega]
    rw [hdrop] at hres
    simp only [seqAllM, seqStepM] at hres
    have hNl : N.length = C.length := hT10.nN
    have hLl : L.length = C.length := hT10.nL
    refine WC.skip (WC.seq (WC.block (WC.seq (WC.region ?_))))
    refine cO (SV.indexAddr rfl rfl (by omega) ?_)
    refine cO (SV.loadM (by assumption) rfl (by assumption) (by assumption) ?_)
    refine asO ?_
    refine WO.nil ?_
    refine WC.seq (WC.region ?_)
    refine mvO ?_
    refine cO ?_
    refine SV.callM rfl rfl (weak_sp hX0 hM10 hT10 (hS10 _ hj)) ?_
    rintro v s11 H11 hn11 hM11 ⟨rfl, rfl⟩
    have hN11 := (weakM_length (A := (sdQ R[i.toNat]).A) (F := F) (st := (sdQ R[i.toNat]).st) (N := N)).trans hNl
    have hT11 := hT10.setN hN11
    have hS11 := fun j hj => (hS10 j hj).setN (o := .row 1 ((weakM (sdQ R[i.toNat]).A F (sdQ R[i.toNat]).st N).map (.int .i64))) (N' := weakM (sdQ R[i.toNat]).A F (sdQ R[i.toNat]).st N)
    refine WO.nil ?_
    have hT11' : TextH (HH.up w (.row 1 ((weakM (sdQ R[i.toNat]).A F (sdQ R[i.toNat]).st N).map (.int .i64)))) (wN ⟨t, c, f, w, l, m, C.length, C, F, F, List.replicate C.length 0, matchesM F, bOf b F, H⟩ L (weakM (sdQ R[i.toNat]).A F (sdQ R[i.toNat]).st N)) := hT11
    have hS11' : ∀ j (hj : j < R.length), SeqH (HH.up w (.row 1 ((weakM (sdQ R[i.toNat]).A F (sdQ R[i.toNat]).st N).map (.int .i64)))) (wN ⟨t, c, f, w, l, m, C.length, C, F, F, List.replicate C.length 0, matchesM F, bOf b F, H⟩ L (weakM (sdQ R[i.toNat]).A F (sdQ R[i.toNat]).st N)) (sdQ R[j]) := hS11
    generalize hN1e : weakM (sdQ R[i.toNat]).A F (sdQ R[i.toNat]).st N = Na at hT11' hS11' hN11
    generalize hH11 : HH.up w (.row 1 (Na.map (.int .i64))) = H11 at hT11' hS11'
    have hM11' : Models ro s11 H11 := by rw [← hH11, ← hN1e]; exact hM11
    clear hM11 hT11 hS11
    refine thn_n ?_
    refine WC.seq (WC.region ?_)
    refine mvO ?_
    refine cO ?_
    refine SV.callM rfl rfl (brackets_sp hX hM11' hT11' (hS11' _ hj)) ?_
    rintro v s12 H12 hn12 hM12 ⟨rfl, rfl⟩
    refine WO.nil ?_
    have hNb : (bracketsM Y C (sdQ R[i.toNat]).A F (sdQ R[i.toNat]).lv (sdQ R[i.toNat]).st Na).length = C.length := (bracM_length _ _).trans hN11
    have hT12 : TextH (H11.up w (.row 1 ((bracketsM Y C (sdQ R[i.toNat]).A F (sdQ R[i.toNat]).lv (sdQ R[i.toNat]).st Na).map (.int .i64)))) (wN ⟨t, c, f, w, l, m, C.length, C, F, F, List.replicate C.length 0, matchesM F, bOf b F, H⟩ L (bracketsM Y C (sdQ R[i.toNat]).A F (sdQ R[i.toNat]).lv (sdQ R[i.toNat]).st Na)) := hT11'.setN hNb
    have hS12 : ∀ j (hj : j < R.length), SeqH (H11.up w (.row 1 ((bracketsM Y C (sdQ R[i.toNat]).A F (sdQ R[i.toNat]).lv (sdQ R[i.toNat]).st Na).map (.int .i64)))) (wN ⟨t, c, f, w, l, m, C.length, C, F, F, List.replicate C.length 0, matchesM F, bOf b F, H⟩ L (bracketsM Y C (sdQ R[i.toNat]).A F (sdQ R[i.toNat]).lv (sdQ R[i.toNat]).st Na)) (sdQ R[j]) := fun j hj => (hS11' j hj).setN
    generalize hNbe : bracketsM Y C (sdQ R[i.toNat]).A F (sdQ R[i.toNat]).lv (sdQ R[i.toNat]).st Na = Nb at hT12 hS12 hNb
    generalize hH12 : H11.up w (.row 1 (Nb.map (.int .i64))) = H12 at hT12 hS12
    have hM12' : Models ro s12 H12 := by rw [← hH12, ← hNbe]; exact hM12
    clear hM12
    refine thn_n ?_
    refine WC.region ?_
    refine mvO ?_
    refine cO ?_
    refine SV.callM rfl rfl (rest_sp hX0 hM12' hT12 (hS12 _ hj)) ?_
    rintro v s13 H13 hn13 hM13 ⟨rfl, rfl⟩
    refine WO.nil ?_
    have hNc : (restN (sdQ R[i.toNat]).A (sdQ R[i.toNat]).st (sdQ R[i.toNat]).en (sdQ R[i.toNat]).lv Nb).length = C.length := restN_length.trans hNb
    have hT13 := (hT12.setN hNc).setL (L' := bumpM (sdQ R[i.toNat]).A (restN (sdQ R[i.toNat]).A (sdQ R[i.toNat]).st (sdQ R[i.toNat]).en (sdQ R[i.toNat]).lv Nb) (sdQ R[i.toNat]).lv (sdQ R[i.toNat]).A.length 0 L) ((bumpM_length _ _ _).trans hLl)
    have hsl13 : SlE HH (.slice (some ⟨av, 0, none⟩) R.length R.length) (R.map fun r => ptrV r.q) := hsl10
    have hres2 : seqAllM Y C F ((R.map seE).drop (i + 1).toNat) (restN (sdQ R[i.toNat]).A (sdQ R[i.toNat]).st (sdQ R[i.toNat]).en (sdQ R[i.toNat]).lv Nb)
        (bumpM (sdQ R[i.toNat]).A (restN (sdQ R[i.toNat]).A (sdQ R[i.toNat]).st (sdQ R[i.toNat]).en (sdQ R[i.toNat]).lv Nb) (sdQ R[i.toNat]).lv (sdQ R[i.toNat]).A.length 0 L) = RES := by
      rw [← hNbe, ← hN1e]; exact hres
    refine WC.region ?_
    refine cO (adI ?_)
    refine mvO ?_
    refine WO.nil ?_
    refine ⟨rfl, (i + 1, _, _), ⟨rfl, rfl, rfl, rfl, rfl, rfl, trivial⟩, ⟨by omega, by dsimp only; omega, by dsimp only; omega, hres2, _, hM13, hT13, fun j hj => ((hS12 j hj).setN (N' := restN (sdQ R[i.toNat]).A (sdQ R[i.toNat]).st (sdQ R[i.toNat]).en (sdQ R[i.toNat]).lv Nb)).setL (L' := bumpM (sdQ R[i.toNat]).A (restN (sdQ R[i.toNat]).A (sdQ R[i.toNat]).st (sdQ R[i.toNat]).en (sdQ R[i.toNat]).lv Nb) (sdQ R[i.toNat]).lv (sdQ R[i.toNat]).A.length 0 L), ?_⟩, by dsimp only; omega⟩
    refine hsl13.keep fun ν o e1 e2 => ?_
    have hw1 : ν ≠ w := fun e => hno.1 (by rw [← e]; exact e1)
    have hl1 : ν ≠ l := fun e => hno.2 (by rw [← e]; exact e1)
    exact Hp.up_ne hl1 (Hp.up_ne hw1 (by rw [← hH12]; exact Hp.up_ne hw1 (by rw [← hH11]; exact Hp.up_ne hw1 e2)))
  · refine WC.exit (WC.seq ?_)
    rw [List.drop_of_length_le (by rw [List.length_map]; omega)] at hres
    simp only [seqAllM] at hres
    refine WC.region ?_
    refine mvO ?_
    refine cO ?_
    refine SV.callM rfl rfl (ends_sp hX0 hM10 hT10) ?_
    rintro v s11 H11 hn11 hM11 ⟨rfl, rfl⟩
    refine WO.nil ?_
    have hLl : (endsM F (bOf b F) L).length = C.length := endsM_length.trans hT10.nL
    have hT11 := hT10.setL hLl
    obtain ⟨e11, cc11, cf11, cw11, cl11, cm11, ht11⟩ := hT11.t
    refine thn_n ?_
    refine WC.seq (WC.region ?_)
    refine mvO ?_
    refine cO (SV.nilPtr rfl ?_)
    refine cO (SV.fieldAddr rfl ?_)
    refine cO (ldM ?_)
    refine asO ?_
    refine asO ?_
    refine WO.nil ?_
    refine WC.ret ?_
    have eL2 : levelsM Y C b = endsM F (bOf b F) L := by rw [hLv, ← hres]
    refine fin_two (e := .ret) (v := .slice (some ⟨l, 0, none⟩) C.length (C.length + cl11)) (w := .int .i64 0) rfl trivial rfl rfl (by omega) hM11 ⟨l, cl11, rfl, fun ν o e => ⟨hT11.kp ν o e, (hT11.bw ν o e).2⟩, ?_, ?_⟩
    · rw [eL2]; exact Hp.up_same
    · rw [eL2]; exact hLl
theorem levels_sp {Y : Exts} {s : St} {H : Hp} {c cc : Nat} {C : List Int} {b : Int} (hX : ExtOk X ro Y) (hM : Models ro s H) (hc : H c = some (.row 1 (C.map (.int .i64)))) (hb : -1 ≤ b ∧ b ≤ 1) (hn : C.length ≤ 16384) :
    Sp X Try.prog ro 17 [.slice (some ⟨c, 0, none⟩) C.length cc, .int .i64 b] s fun v H' => ∃ l cl, v = .tuple #[.slice (some ⟨l, 0, none⟩) C.length cl, .int .i64 0] ∧ (∀ ν o, H ν = some o → H' ν = some o ∧ ν ≠ l) ∧ H' l = some (.row 1 ((levelsM Y C b).map (.int .i64))) ∧ (levelsM Y C b).length = C.length :=
  (levels_spc hX hM hc hb hn).mono fun v H' ⟨l, cl, h⟩ => ⟨l, _, h⟩
end Go.Proofs.Ythkklpegjcnjoaa
