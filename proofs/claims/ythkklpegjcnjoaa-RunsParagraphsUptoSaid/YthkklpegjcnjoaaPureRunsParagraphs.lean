/- The pure statement of RunsParagraphs, of at most 1048576 codes: both ways of cutting a text into paragraphs come to the same, and together they are the text. -/
import Derived.Test.YthkklpegjcnjoaaPRunsParagraphsx3
import Derived.Test.YthkklpegjcnjoaaTables
namespace Go.Proofs.Ythkklpegjcnjoaa.Pure
open Go.RowKit Go.Proofs.Ythkklpegjcnjoaa.PRunsParagraphs Go.Proofs.YthkklpegjcnjoaaW.PrintWords Go.Proofs.YthkklpegjcnjoaaW.PrintLast Go.Proofs.YthkklpegjcnjoaaW.PrintMore
set_option linter.unusedVariables false
set_option linter.unusedSimpArgs false

/-- With rounds enough the answer is r. -/
def E {α : Type} (g : Nat → Option α) (r : α) : Prop := ∃ K, ∀ k, K ≤ k → g k = some r
theorem E.of {α : Type} {r : α} : E (fun _ => some r) r := ⟨0, fun _ _ => rfl⟩
theorem E.succ {α : Type} {g h : Nat → Option α} {r : α} (e : ∀ k, g (k + 1) = h k) (H : E h r) : E g r := by
  obtain ⟨K, hK⟩ := H
  refine ⟨K + 1, fun k hk => ?_⟩
  obtain ⟨m, rfl⟩ : ∃ m, k = m + 1 := ⟨k - 1, by omega⟩
  rw [e]; exact hK m (by omega)
theorem E.bind {α β : Type} {g : Nat → Option α} {r : α} {h : Nat → α → Option β} {s : β} (H : E g r) (H2 : E (fun k => h k r) s) : E (fun k => (g k).bind (h k)) s := by
  obtain ⟨K, hK⟩ := H
  obtain ⟨L, hL⟩ := H2
  exact ⟨K + L, fun k hk => by simp only [hK k (by omega), Option.bind_some]; exact hL k (by omega)⟩
theorem E.ex {α : Type} {g : Nat → Option α} {r : α} (H : E g r) : ∃ k, g k = some r := by
  obtain ⟨K, hK⟩ := H
  exact ⟨K, hK K (Nat.le_refl _)⟩

theorem w64 {n : Int} (h0 : -9223372036854775808 ≤ n) (h1 : n < 9223372036854775808) : wrap64 n = n := by
  unfold wrap64
  omega
theorem nat_one (i : Nat) : (i : Int) + 1 = ((i + 1 : Nat) : Int) := rfl
theorem rd_nat (l : List Int) (b : Nat) : rd l (b : Int) = l.getD b 0 := by simp [rd]

noncomputable def br (c : Int) : Int := (lookF c).2.2
theorem look_eta (c : Int) : lookF c = ((lookF c).1, (lookF c).2.1, br c) := by
  unfold br
  generalize lookF c = x
  obtain ⟨a, b, d⟩ := x
  rfl
theorem ulook (c : Int) : ucd_Look.f c = some ((lookF c).1, (lookF c).2.1, br c) := by
  unfold ucd_Look.f
  exact congrArg some (look_eta c)
theorem rlook (c : Int) : serifref12_Look.f c = some ((lookF c).1, (lookF c).2.1, br c) := by
  unfold serifref12_Look.f
  rw [look_same]
  exact congrArg some (look_eta c)

/-- Does a paragraph end behind place i? -/
noncomputable def ends (l : List Int) (i : Nat) : Bool :=
  decide (i + 1 = l.length ∨ br (l.getD i 0) = 1 ∨ br (l.getD i 0) = 3 ∨ (br (l.getD i 0) = 2 ∧ br (l.getD (i + 1) 0) ≠ 3))

noncomputable def go (l : List Int) : Nat → Nat → Nat → List S39 → List S39
  | 0, _, _, out => out
  | d + 1, i, fr, out => if ends l i = true then go l d (i + 1) (i + 1) (out ++ [⟨(fr : Int), ((i + 1 : Nat) : Int)⟩]) else go l d (i + 1) fr out

theorem prog0 (l : List Int) (hb : l.length ≤ 1048576) : ∀ (d i fr : Nat) (out : List S39), i + d = l.length → out.length ≤ i →
    E (fun k => runs_Paragraphs.l0 k l out (fr : Int) l (l.length : Int) (i : Int)) (go l d i fr out) := by
  intro d
  induction d with
  | zero =>
    intro i fr out hi ho
    exact E.succ (h := fun _ => some out) (fun k => by simp only [runs_Paragraphs.l0]; rw [if_neg (by omega)]) E.of
  | succ d ih =>
    intro i fr out hi ho
    have hlk : ucd_Look.f (l.getD i 0) = some ((lookF (l.getD i 0)).1, (lookF (l.getD i 0)).2.1, br (l.getD i 0)) := ulook _
    have hlk1 : ucd_Look.f (l.getD (i + 1) 0) = some ((lookF (l.getD (i + 1) 0)).1, (lookF (l.getD (i + 1) 0)).2.1, br (l.getD (i + 1) 0)) := ulook _
    have hol : out.length < 8796093022208 := by omega
    have yes := ih (i + 1) (i + 1) (out ++ [⟨(fr : Int), ((i + 1 : Nat) : Int)⟩]) (by omega) (by simp; omega)
    have no := ih (i + 1) fr out (by omega) (by omega)
    have hx7 : ((wrap64 ((i : Int) + 1)) == (l.length : Int)) = decide (i + 1 = l.length) := by
      rw [w64 (by omega) (by omega)]
      by_cases e : i + 1 = l.length
      · simp [← e]
      · have : ((i : Int) + 1 == (l.length : Int)) = false := by simp; omega
        rw [this]; simp [e]
    have j1 : ∀ b : Bool, (b = true ↔ br (l.getD i 0) = 1 ∨ br (l.getD i 0) = 3) →
        E (fun k => runs_Paragraphs.j1 k l out (fr : Int) (i : Int) (decide (i + 1 = l.length)) l (l.length : Int) (i : Int) (br (l.getD i 0)) b) (go l (d + 1) i fr out) := by
      intro b hbb
      rw [go]
      by_cases e13 : br (l.getD i 0) = 1 ∨ br (l.getD i 0) = 3
      · rw [if_pos (by unfold ends; exact decide_eq_true (by omega))]
        exact E.succ (h := _) (fun k => by
          simp only [runs_Paragraphs.j1]
          rw [if_pos (hbb.2 e13), if_pos hol, w64 (by omega) (by omega), nat_one]) yes
      · have hbf : ¬ b = true := fun h => e13 (hbb.1 h)
        by_cases e2 : br (l.getD i 0) = 2
        · by_cases el : i + 1 = l.length
          · rw [if_pos (by unfold ends; exact decide_eq_true (.inl el))]
            exact E.succ (h := _) (fun k => by
              simp only [runs_Paragraphs.j1]
              rw [if_neg hbf, if_pos e2, if_pos (decide_eq_true el), if_pos hol, w64 (by omega) (by omega), nat_one]) yes
          · by_cases e3 : br (l.getD (i + 1) 0) = 3
            · rw [if_neg (by unfold ends; rw [decide_eq_true_eq]; omega)]
              exact E.succ (h := _) (fun k => by
                simp only [runs_Paragraphs.j1]
                rw [if_neg hbf, if_pos e2, if_neg (by simp [el]), w64 (by omega) (by omega), nat_one, if_pos (by omega), if_pos (by omega), rd_nat, hlk1]
                simp only [Option.bind_some, if_pos e3]) no
            · rw [if_pos (by unfold ends; exact decide_eq_true (.inr (.inr (.inr ⟨e2, e3⟩))))]
              exact E.succ (h := _) (fun k => by
                simp only [runs_Paragraphs.j1]
                rw [if_neg hbf, if_pos e2, if_neg (by simp [el]), w64 (by omega) (by omega), nat_one, if_pos (by omega), if_pos (by omega), rd_nat, hlk1]
                simp only [Option.bind_some, if_neg e3, if_pos hol]) yes
        · by_cases el : i + 1 = l.length
          · rw [if_pos (by unfold ends; exact decide_eq_true (.inl el))]
            exact E.succ (h := _) (fun k => by
              simp only [runs_Paragraphs.j1]
              rw [if_neg hbf, if_neg e2, if_pos (decide_eq_true el), if_pos hol, w64 (by omega) (by omega), nat_one]) yes
          · rw [if_neg (by unfold ends; rw [decide_eq_true_eq]; omega)]
            exact E.succ (h := _) (fun k => by
              simp only [runs_Paragraphs.j1]
              rw [if_neg hbf, if_neg e2, if_neg (by simp [el]), w64 (by omega) (by omega), nat_one]) no
    by_cases e1 : br (l.getD i 0) = 1
    · exact E.succ (h := _) (fun k => by
        simp only [runs_Paragraphs.l0]
        rw [if_pos (by omega), if_pos (by omega), if_pos (by omega), rd_nat, hlk]
        simp only [Option.bind_some, if_pos e1, hx7]) (j1 (br (l.getD i 0) == 1) ⟨fun h => .inl (beq_iff_eq.1 h), fun _ => beq_iff_eq.2 e1⟩)
    · exact E.succ (h := _) (fun k => by
        simp only [runs_Paragraphs.l0]
        rw [if_pos (by omega), if_pos (by omega), if_pos (by omega), rd_nat, hlk]
        simp only [Option.bind_some, if_neg e1, hx7]) (j1 (br (l.getD i 0) == 3) ⟨fun h => .inr (beq_iff_eq.1 h), fun h => beq_iff_eq.2 (h.resolve_left e1)⟩)

theorem key0 {p q r s a : Prop} [Decidable p] [Decidable q] [Decidable r] [Decidable s] [Decidable a] (hp : ¬ p) (hq : ¬ q) (hr : ¬ r) (hs : s) :
    decide a = decide (p ∨ q ∨ r ∨ (s ∧ a)) := by
  by_cases h : a
  · rw [decide_eq_true h, decide_eq_true (.inr (.inr (.inr ⟨hs, h⟩)))]
  · rw [decide_eq_false h, decide_eq_false]
    exact fun g => g.elim hp (fun g => g.elim hq (fun g => g.elim hr (fun g => h g.2)))

theorem bne_dec (x : Int) : (x != 3) = decide (x ≠ 3) := by
  by_cases h : x = 3
  · rw [h]; decide
  · rw [decide_eq_true h]; exact bne_iff_ne.2 h

theorem ends_key {l : List Int} {i : Nat} (el : ¬ i + 1 = l.length) (e1 : ¬ br (l.getD i 0) = 1) (e3 : ¬ br (l.getD i 0) = 3) (e2 : br (l.getD i 0) = 2) :
    decide (br (l.getD (i + 1) 0) ≠ 3) = ends l i := by
  unfold ends
  exact key0 el e1 e3 e2

theorem ends_f (l : List Int) (hb : l.length ≤ 1048576) (i : Nat) (hi : i < l.length) : serifref14_ends.f l (i : Int) = some (ends l i) := by
  have hlk : serifref12_Look.f (l.getD i 0) = some ((lookF (l.getD i 0)).1, (lookF (l.getD i 0)).2.1, br (l.getD i 0)) := rlook _
  have hlk1 : serifref12_Look.f (l.getD (i + 1) 0) = some ((lookF (l.getD (i + 1) 0)).1, (lookF (l.getD (i + 1) 0)).2.1, br (l.getD (i + 1) 0)) := rlook _
  have hw : wrap64 ((l.length : Int) - 1) = (l.length : Int) - 1 := w64 (by omega) (by omega)
  have hw1 : wrap64 ((i : Int) + 1) = ((i + 1 : Nat) : Int) := w64 (by omega) (by omega)
  unfold serifref14_ends.f
  rw [if_pos (by omega), if_pos (by omega), rd_nat, hlk]
  simp only [Option.bind_some, hw, hw1]
  by_cases el : i + 1 = l.length
  · rw [if_pos (by omega)]
    have : ends l i = true := by unfold ends; exact decide_eq_true (.inl el)
    rw [this]
  · rw [if_neg (by omega)]
    have hA : (0 : Int) ≤ ((i + 1 : Nat) : Int) := by omega
    have hB : ((i + 1 : Nat) : Int) < (l.length : Int) := by omega
    by_cases e1 : br (l.getD i 0) = 1
    · rw [if_pos e1]
      have : ends l i = true := by unfold ends; exact decide_eq_true (.inr (.inl e1))
      rw [this]
    · rw [if_neg e1]
      by_cases e3 : br (l.getD i 0) = 3
      · rw [if_pos e3]
        have : ends l i = true := by unfold ends; exact decide_eq_true (.inr (.inr (.inl e3)))
        rw [this]
      · rw [if_neg e3]
        by_cases e2 : br (l.getD i 0) = 2
        · rw [if_pos e2, if_pos hA, if_pos hB, rd_nat, hlk1]
          simp only [Option.bind_some]
          have key : (br (l.getD (i + 1) 0) != 3) = ends l i := (bne_dec _).trans (ends_key el e1 e3 e2)
          exact congrArg some key
        · rw [if_neg e2]
          have : ends l i = false := by unfold ends; rw [decide_eq_false_iff_not]; omega
          rw [this]

theorem ref0 (l : List Int) (hb : l.length ≤ 1048576) : ∀ (d i fr : Nat) (out : List S39), i + d = l.length → out.length ≤ i →
    E (fun k => serifref14_Paragraphs.l0 k l out (fr : Int) (l.length : Int) (i : Int)) (go l d i fr out) := by
  intro d
  induction d with
  | zero =>
    intro i fr out hi ho
    exact E.succ (h := fun _ => some out) (fun k => by simp only [serifref14_Paragraphs.l0]; rw [if_neg (by omega)]) E.of
  | succ d ih =>
    intro i fr out hi ho
    have hol : out.length < 8796093022208 := by omega
    have hef := ends_f l hb i (by omega)
    rw [go]
    by_cases e : ends l i = true
    · rw [if_pos e]
      have yes := ih (i + 1) (i + 1) (out ++ [⟨(fr : Int), ((i + 1 : Nat) : Int)⟩]) (by omega) (by simp; omega)
      exact E.succ (h := _) (fun k => by
        simp only [serifref14_Paragraphs.l0]
        rw [if_pos (by omega), hef]
        simp only [Option.bind_some, e, if_true]
        rw [if_pos hol, w64 (by omega) (by omega), nat_one]) yes
    · rw [if_neg e]
      have no := ih (i + 1) fr out (by omega) (by omega)
      have ef : ends l i = false := by simpa using e
      exact E.succ (h := _) (fun k => by
        simp only [serifref14_Paragraphs.l0]
        rw [if_pos (by omega), hef]
        simp only [Option.bind_some, ef, if_neg (show ¬ (false = true) by decide)]
        rw [w64 (by omega) (by omega), nat_one]) no

/-- Paragraphs that lie one behind the other from a to b, none empty. -/
def ok : List S39 → Int → Int → Prop
  | [], a, b => a = b
  | x :: r, a, b => x.f0 = a ∧ a < x.f1 ∧ ok r x.f1 b

theorem ok_snoc : ∀ (p : List S39) (a b c : Int), ok p a b → b < c → ok (p ++ [⟨b, c⟩]) a c
  | [], a, b, c, h, hc => by
    have h : a = b := h
    subst h
    exact ⟨rfl, hc, rfl⟩
  | x :: r, a, b, c, h, hc => ⟨h.1, h.2.1, ok_snoc r x.f1 b c h.2.2 hc⟩

theorem go_ok (l : List Int) : ∀ (d i fr : Nat) (out : List S39), i + d = l.length → ok out 0 (fr : Int) → fr ≤ i → (d = 0 → fr = l.length) → ok (go l d i fr out) 0 (l.length : Int)
  | 0, i, fr, out, hi, ho, hf, h0 => by
    rw [go]
    rw [← h0 rfl]
    exact ho
  | d + 1, i, fr, out, hi, ho, hf, h0 => by
    rw [go]
    by_cases e : ends l i = true
    · rw [if_pos e]
      exact go_ok l d (i + 1) (i + 1) _ (by omega) (ok_snoc out 0 fr _ ho (by omega)) (by omega) (fun hd => by omega)
    · rw [if_neg e]
      refine go_ok l d (i + 1) fr out (by omega) ho (by omega) (fun hd => ?_)
      exact absurd (by unfold ends; exact decide_eq_true (.inl (by omega))) e

theorem law0 (l : List Int) (p : List S39) (hp : p.length ≤ 1048576) : ∀ (d i : Nat) (a : Int), i + d = p.length → ok (p.drop i) a (l.length : Int) →
    E (fun k => seriflaw14_RunsParagraphs.l0 k l p p a (p.length : Int) (i : Int)) true := by
  intro d
  induction d with
  | zero =>
    intro i a hi ho
    rw [List.drop_of_length_le (by omega)] at ho
    have ho : a = (l.length : Int) := ho
    exact E.succ (h := fun _ => some true) (fun k => by simp only [seriflaw14_RunsParagraphs.l0]; rw [if_neg (by omega), ho]; simp) E.of
  | succ d ih =>
    intro i a hi ho
    have hi2 : i < p.length := by omega
    have hd : p.drop i = rd_T39 p (i : Int) :: p.drop (i + 1) := by
      have : rd_T39 p (i : Int) = p[i] := by
        unfold rd_T39
        rw [Int.toNat_natCast, List.getD_eq_getElem?_getD, List.getElem?_eq_getElem hi2]
        rfl
      rw [this]
      exact List.drop_eq_getElem_cons hi2
    rw [hd] at ho
    have h1 : (rd_T39 p (i : Int)).f0 = a := ho.1
    have h2 : a < (rd_T39 p (i : Int)).f1 := ho.2.1
    exact E.succ (h := _) (fun k => by
      simp only [seriflaw14_RunsParagraphs.l0]
      rw [if_pos (by omega), if_pos (by omega), if_pos (by omega), if_pos (by omega), if_neg (by simp), if_pos h1, if_neg (by omega), w64 (by omega) (by omega), nat_one]) (ih (i + 1) _ (by omega) ho.2.2)

theorem go_length (l : List Int) : ∀ (d i fr : Nat) (out : List S39), (go l d i fr out).length ≤ out.length + d
  | 0, _, _, out => by simp [go]
  | d + 1, i, fr, out => by
    rw [go]
    split
    · have := go_length l d (i + 1) (i + 1) (out ++ [⟨(fr : Int), ((i + 1 : Nat) : Int)⟩])
      simp only [List.length_append, List.length_singleton] at this
      omega
    · have := go_length l d (i + 1) fr out
      omega

theorem RunsParagraphs (l0 : List Int) (hb : l0.length ≤ 1048576) : ∃ k, seriflaw14_RunsParagraphs.f k l0 = some true := by
  have ho := prog0 l0 hb l0.length 0 0 [] (by omega) (by simp)
  have hr := ref0 l0 hb l0.length 0 0 [] (by omega) (by simp)
  have hk := go_ok l0 l0.length 0 0 [] (by omega) rfl (by omega) (fun h => by omega)
  have hl := go_length l0 l0.length 0 0 []
  generalize go l0 l0.length 0 0 [] = p at ho hr hk hl
  refine E.ex (r := true) ?_
  unfold seriflaw14_RunsParagraphs.f
  simp only [seriflaw14_runsAlive.f, Option.bind_some, if_true, List.nil_append, List.length_nil, Nat.zero_add, if_pos (show l0.length < 17592186044416 by omega)]
  refine E.bind (r := p) (by unfold runs_Paragraphs.f; exact ho) (E.bind (r := p) (by unfold serifref14_Paragraphs.f; exact hr) ?_)
  simp only [if_true]
  exact law0 l0 p (by simp at hl; omega) p.length 0 0 (by omega) (by simpa using hk)

end Go.Proofs.Ythkklpegjcnjoaa.Pure
