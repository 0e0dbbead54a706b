/- A part of the proof: rules for walking code over the evaluator, and what the functions that were walked come to: no condition but those that each theorem states. -/
import Derived.Test.YthkklpegjcnjoaaPA
set_option linter.unusedVariables false
set_option linter.unusedSimpArgs false
namespace Go.Proofs.Ythkklpegjcnjoaa
open Go.Ab
set_option linter.unusedVariables false
set_option linter.unusedSimpArgs false

/-! ### An isolate's contents: matches -/

/-- A place ahead of the contents, or behind them. -/
def sg (h : Nat) (s x : Int) : Int := if x < h then x else x + s
def Ou (h c : Nat) (p : Int) : Prop := p < h ∨ (h + c : Nat) ≤ p
theorem sg_iff {h c : Nat} {s p q : Int} (hs : 0 ≤ c + s) (hp : Ou h c p) (hq : Ou h c q) : sg h s p = sg h s q ↔ p = q := by unfold Ou at *; unfold sg; split <;> split <;> omega
theorem sg_lt {h c : Nat} {s p q : Int} (hs : 0 ≤ c + s) (hp : Ou h c p) (hq : Ou h c q) : sg h s p < sg h s q ↔ p < q := by unfold Ou at *; unfold sg; split <;> split <;> omega
theorem sg_nn {h c : Nat} {s p : Int} (hs : 0 ≤ c + s) (hp : Ou h c p) (h0 : 0 ≤ p) : 0 ≤ sg h s p := by unfold Ou at *; unfold sg; split <;> omega
theorem sg_neg {h : Nat} {s p : Int} (h0 : p < 0) : sg h s p = p := by unfold sg; rw [if_pos (by omega)]
theorem sg_lo {h : Nat} {s p : Int} (h0 : p < h) : sg h s p = p := by unfold sg; rw [if_pos h0]
theorem sg_hi {h : Nat} {s p : Int} (h0 : h ≤ p) : sg h s p = p + s := by unfold sg; rw [if_neg (by omega)]

/-- Two texts that differ in an isolate's contents alone. -/
structure Iso (F F' : List Int) (h c c' t : Nat) : Prop where
  h0 : 0 < h
  t0 : 0 < t
  len : F.length = h + c + t
  len' : F'.length = h + c' + t
  hd : ∀ p : Int, 0 ≤ p → p < h → rd F' p = rd F p
  tl : ∀ p : Int, 0 ≤ p → p < t → rd F' ((h + c' : Nat) + p) = rd F ((h + c : Nat) + p)
  cn : ∀ p : Int, h ≤ p → p < (h + c : Nat) → ¬ isOpener (rd F p) ∧ rd F p ≠ 22 ∧ rd F p ≠ 10 ∧ rd F p ≠ 11
  cn' : ∀ p : Int, h ≤ p → p < (h + c' : Nat) → ¬ isOpener (rd F' p) ∧ rd F' p ≠ 22 ∧ rd F' p ≠ 10 ∧ rd F' p ≠ 11
  lri : rd F (h - 1 : Nat) = 19
  pdi : rd F (h + c : Nat) = 22
  sol : ∃ p : Int, h ≤ p ∧ p < (h + c : Nat) ∧ rd F p ≠ 12 ∧ ¬ isRemoved (rd F p)
  sol' : ∃ p : Int, h ≤ p ∧ p < (h + c' : Nat) ∧ rd F' p ≠ 12 ∧ ¬ isRemoved (rd F' p)

section
variable {F F' : List Int} {h c c' t : Nat}
theorem Iso.f (I : Iso F F' h c c' t) {p : Int} (h0 : 0 ≤ p) (h1 : p < F.length) (ho : Ou h c p) : rd F' (sg h (c' - c) p) = rd F p := by
  unfold Ou at ho
  have := I.len
  by_cases e : p < h
  · rw [sg_lo e]; exact I.hd p h0 e
  · rw [sg_hi (by omega)]
    have := I.tl (p - (h + c : Nat)) (by omega) (by omega)
    rw [show p + ((c' : Int) - c) = (h + c' : Nat) + (p - (h + c : Nat)) by omega, this]
    congr 1; omega
theorem Iso.one (I : Iso F F' h c c' t) : Iso F F h c c t :=
  ⟨I.h0, I.t0, I.len, I.len, fun _ _ _ => rfl, fun _ _ _ => rfl, I.cn, I.cn, I.lri, I.pdi, I.sol, I.sol⟩
theorem Iso.two (I : Iso F F' h c c' t) : Iso F' F' h c' c' t :=
  ⟨I.h0, I.t0, I.len', I.len', fun _ _ _ => rfl, fun _ _ _ => rfl, I.cn', I.cn', by have h0 := I.h0; rw [I.hd _ (by omega) (by omega)]; exact I.lri, by have := I.tl 0 (by omega) (by have := I.t0; omega); rw [Int.add_zero, Int.add_zero] at this; rw [this]; exact I.pdi, I.sol', I.sol'⟩
theorem Iso.lsg (I : Iso F F' h c c' t) : sg h (c' - c) F.length = F'.length := by rw [sg_hi (by have := I.len; omega), I.len, I.len']; omega

theorem mt_cont : ∀ (r : Nat) (i : Int) (O M : List Int), 0 ≤ i → (∀ j : Int, i ≤ j → j < i + r → ¬ isOpener (rd F j) ∧ rd F j ≠ 22 ∧ rd F j ≠ 10) →
    (mt F r i O M).1 = O ∧ ∀ q : Int, 0 ≤ q → (q < i ∨ i + r ≤ q) → rd (mt F r i O M).2 q = rd M q
  | 0, _, _, _, _, _ => ⟨rfl, fun _ _ _ => rfl⟩
  | r + 1, i, O, M, h0, h => by
    obtain ⟨h1, h2, h3⟩ := h i (Int.le_refl _) (by push_cast; omega)
    simp only [mt]
    unfold matchO matchS
    rw [if_neg h1, if_neg h3, if_neg (fun h => h2 h.1), if_neg h1, if_neg h3, if_neg (fun h => h2 h.1)]
    obtain ⟨g1, g2⟩ := mt_cont r (i + 1) O (M.set i.toNat (-1)) (by omega) (fun j a b => h j (by omega) (by push_cast; omega))
    refine ⟨g1, fun q a b => ?_⟩
    push_cast at b
    rw [g2 q a (by omega)]
    exact set_ne h0 a (by omega)
/-- A place whose match is settled keeps it. -/
theorem mt_fix {q : Int} (hq : 0 ≤ q) : ∀ (r : Nat) (i : Int) (O M : List Int), q < i → (∀ x ∈ O, 0 ≤ x ∧ x ≠ q) → rd (mt F r i O M).2 q = rd M q
  | 0, _, _, _, _, _ => rfl
  | r + 1, i, O, M, hi, hO => by
    simp only [mt]
    have e0 : ∀ v, rd (M.set i.toNat v) q = rd M q := fun v => set_ne (by omega) hq (by omega)
    rw [mt_fix hq r (i + 1) _ _ (by omega) ?_]
    · unfold matchS
      split
      · exact e0 _
      split
      · exact e0 _
      split
      · rename_i h3
        have := hO _ (lastI_mem h3.2)
        rw [set_ne this.1 hq (fun e => this.2 (by omega)), set_ne (by omega) hq (by omega)]; exact e0 _
      · exact e0 _
    · unfold matchO
      intro x hx
      split at hx
      · rcases List.mem_append.mp hx with hx | hx
        · exact hO x hx
        · rw [List.mem_singleton.mp hx]; omega
      split at hx
      · cases hx
      split at hx
      · exact hO x (List.mem_of_mem_take hx)
      · exact hO x hx
theorem mt_rg : ∀ (r : Nat) (i : Int) (O M : List Int), 0 ≤ i → (∀ x ∈ O, 0 ≤ x ∧ x < i) → ∀ x ∈ (mt F r i O M).1, 0 ≤ x ∧ x < i + r
  | 0, i, _, _, _, h, x, hx => by have := h x hx; simpa using this
  | r + 1, i, O, M, h0, h, x, hx => by
    simp only [mt] at hx
    have := mt_rg r (i + 1) _ _ (by omega) (fun y hy => by
      unfold matchO at hy
      split at hy
      · rcases List.mem_append.mp hy with hy | hy
        · have := h y hy; omega
        · rw [List.mem_singleton.mp hy]; omega
      split at hy
      · cases hy
      split at hy
      · have := h y (List.mem_of_mem_take hy); omega
      · have := h y hy; omega) x hx
    push_cast; omega

structure MR (h c : Nat) (s i : Int) (O M O' M' : List Int) : Prop where
  o : O' = O.map (sg h s)
  rg : ∀ x ∈ O, 0 ≤ x ∧ x < i ∧ Ou h c x
  m : ∀ p : Int, 0 ≤ p → p < i → Ou h c p → rd M' (sg h s p) = sg h s (rd M p)
theorem lastI_mapf {O : List Int} {f : Int → Int} (h : 0 < O.length) : lastI (O.map f) = f (lastI O) := by
  unfold lastI
  rw [List.length_map, rd_at (by omega) (by rw [List.length_map]; omega), rd_at (by omega) (by omega)]
  simp
theorem MR.next {s i : Int} {O M O' M' : List Int} (H : MR h c s i O M O' M') (hs : 0 ≤ c + s) (h0 : 0 ≤ i) (ho : Ou h c i) (hi : i < M.length) (hi' : sg h s i < M'.length) (hF : rd F' (sg h s i) = rd F i) :
    MR h c s (i + 1) (matchO F i O) (matchS F i O M) (matchO F' (sg h s i) O') (matchS F' (sg h s i) O' M') := by
  have h0' := sg_nn hs ho h0
  have hm1 : ∀ p : Int, 0 ≤ p → p < i + 1 → Ou h c p → rd (M'.set (sg h s i).toNat (-1)) (sg h s p) = sg h s (rd (M.set i.toNat (-1)) p) := fun p a b o => by
    rw [rd_set h0' (sg_nn hs o a) hi', rd_set h0 a hi]
    by_cases e : p = i
    · rw [if_pos e, if_pos (by rw [e]), sg_neg (by omega)]
    · rw [if_neg e, if_neg (fun x => e ((sg_iff hs o ho).mp x))]; exact H.m p a (by omega) o
  have hol : O'.length = O.length := by rw [H.o, List.length_map]
  unfold matchO matchS
  rw [hF, hol]
  by_cases c1 : isOpener (rd F i)
  · simp only [if_pos c1]
    refine { o := by rw [H.o]; simp, rg := fun x hx => ?_, m := hm1 }
    rcases List.mem_append.mp hx with hx | hx
    · have := H.rg x hx; exact ⟨this.1, by omega, this.2.2⟩
    · rw [List.mem_singleton.mp hx]; exact ⟨h0, by omega, ho⟩
  by_cases c2 : rd F i = 10
  · simp only [if_neg c1, if_pos c2]
    exact { o := rfl, rg := fun x hx => (by cases hx), m := hm1 }
  by_cases c3 : rd F i = 22 ∧ 0 < O.length
  · simp only [if_neg c1, if_neg c2, if_pos c3]
    have hl := H.rg _ (lastI_mem c3.2)
    have el : lastI O' = sg h s (lastI O) := by rw [H.o]; exact lastI_mapf c3.2
    have hl0 := sg_nn hs hl.2.2 hl.1
    have hll := (sg_lt hs hl.2.2 ho).mpr hl.2.1
    rw [el]
    refine { o := by rw [H.o, List.map_take], rg := fun x hx => by have := H.rg x (List.mem_of_mem_take hx); exact ⟨this.1, by omega, this.2.2⟩, m := fun p a b o => ?_ }
    rw [rd_two h0' (by simp only [List.length_set]; omega) hl0 (by simp only [List.length_set]; omega) (sg_nn hs o a), rd_two h0 (by simp only [List.length_set]; omega) hl.1 (by simp only [List.length_set]; omega) a]
    by_cases e : p = lastI O
    · rw [if_pos e, if_pos (by rw [e])]
    · rw [if_neg e, if_neg (fun x => e ((sg_iff hs o hl.2.2).mp x))]
      by_cases e2 : p = i
      · rw [if_pos e2, if_pos (by rw [e2])]
      · rw [if_neg e2, if_neg (fun x => e2 ((sg_iff hs o ho).mp x))]; exact hm1 p a b o
  · simp only [if_neg c1, if_neg c2, if_neg c3]
    exact { o := H.o, rg := fun x hx => by have := H.rg x hx; exact ⟨this.1, by omega, this.2.2⟩, m := hm1 }
theorem mr_rel {s d : Int} (hs : 0 ≤ c + s) : ∀ (r : Nat) (i : Int) (O M O' M' : List Int), 0 ≤ i → (∀ j : Int, i ≤ j → j < i + r → Ou h c j ∧ sg h s j = j + d ∧ rd F' (j + d) = rd F j) → i + r ≤ M.length → i + r + d ≤ M'.length → MR h c s i O M O' M' →
    MR h c s (i + r) (mt F r i O M).1 (mt F r i O M).2 (mt F' r (i + d) O' M').1 (mt F' r (i + d) O' M').2
  | 0, i, O, M, O', M', _, _, _, _, H => by simpa [mt] using H
  | r + 1, i, O, M, O', M', h0, hj, h1, h2, H => by
    push_cast at h1 h2
    obtain ⟨j1, j2, j3⟩ := hj i (Int.le_refl _) (by push_cast; omega)
    have hn := H.next (F := F) (F' := F') hs h0 j1 (by omega) (by omega) (by rw [j2]; exact j3)
    rw [j2] at hn
    have := mr_rel hs r (i + 1) _ _ _ _ (by omega) (fun j a b => hj j (by omega) (by push_cast; omega)) (by rw [matchS_length]; omega) (by rw [matchS_length]; omega) hn
    simp only [mt]
    rw [show i + d + 1 = i + 1 + d by omega, show i + ((r + 1 : Nat) : Int) = i + 1 + (r : Int) by push_cast; omega]
    exact this

theorem matches_iso (I : Iso F F' h c c' t) : (∀ p : Int, 0 ≤ p → p < F.length → Ou h c p → rd (matchesM F') (sg h (c' - c) p) = sg h (c' - c) (rd (matchesM F) p)) := by
  have hl := I.len
  have hl' := I.len'
  have e0 : matchesM F = (mt F t (h + c : Nat) (mt F c h (mt F h 0 [] (List.replicate F.length 0)).1 (mt F h 0 [] (List.replicate F.length 0)).2).1 (mt F c h (mt F h 0 [] (List.replicate F.length 0)).1 (mt F h 0 [] (List.replicate F.length 0)).2).2).2 := by
    unfold matchesM
    rw [← mt_match]
    conv => lhs; rw [show F.length = h + (c + t) by omega, mt_add, mt_add]
    rw [Int.zero_add, show (h : Int) + c = (h + c : Nat) by omega, show h + (c + t) = F.length by omega]
  have e0' : matchesM F' = (mt F' t (h + c' : Nat) (mt F' c' h (mt F' h 0 [] (List.replicate F'.length 0)).1 (mt F' h 0 [] (List.replicate F'.length 0)).2).1 (mt F' c' h (mt F' h 0 [] (List.replicate F'.length 0)).1 (mt F' h 0 [] (List.replicate F'.length 0)).2).2).2 := by
    unfold matchesM
    rw [← mt_match]
    conv => lhs; rw [show F'.length = h + (c' + t) by omega, mt_add, mt_add]
    rw [Int.zero_add, show (h : Int) + c' = (h + c' : Nat) by omega, show h + (c' + t) = F'.length by omega]
  have r1 := mr_rel (F := F) (F' := F') (h := h) (c := c) (s := (c' : Int) - c) (d := 0) (by omega) h 0 [] (List.replicate F.length 0) [] (List.replicate F'.length 0) (Int.le_refl _)
    (fun j a b => ⟨.inl (by omega), by rw [sg_lo (by omega), Int.add_zero], by rw [Int.add_zero]; exact I.hd j a (by omega)⟩) (by simp; omega) (by simp; omega) { o := rfl, rg := fun x hx => (by cases hx), m := fun p a b => (by omega) }
  rw [Int.zero_add, Int.zero_add] at r1
  obtain ⟨c1, c2⟩ := mt_cont (F := F) c h (mt F h 0 [] (List.replicate F.length 0)).1 (mt F h 0 [] (List.replicate F.length 0)).2 (by omega) (fun j a b => by have := I.cn j a (by omega); exact ⟨this.1, this.2.1, this.2.2.1⟩)
  obtain ⟨c1', c2'⟩ := mt_cont (F := F') c' h (mt F' h 0 [] (List.replicate F'.length 0)).1 (mt F' h 0 [] (List.replicate F'.length 0)).2 (by omega) (fun j a b => by have := I.cn' j a (by omega); exact ⟨this.1, this.2.1, this.2.2.1⟩)
  have r2 : MR h c ((c' : Int) - c) (h + c : Nat) (mt F c h (mt F h 0 [] (List.replicate F.length 0)).1 (mt F h 0 [] (List.replicate F.length 0)).2).1 (mt F c h (mt F h 0 [] (List.replicate F.length 0)).1 (mt F h 0 [] (List.replicate F.length 0)).2).2 (mt F' c' h (mt F' h 0 [] (List.replicate F'.length 0)).1 (mt F' h 0 [] (List.replicate F'.length 0)).2).1 (mt F' c' h (mt F' h 0 [] (List.replicate F'.length 0)).1 (mt F' h 0 [] (List.replicate F'.length 0)).2).2 := {
    o := by rw [c1, c1']; exact r1.o
    rg := fun x hx => by rw [c1] at hx; have := r1.rg x hx; exact ⟨this.1, by omega, this.2.2⟩
    m := fun p a b o => by
      have hp : p < h := by unfold Ou at o; omega
      rw [c2 p a (.inl hp), c2' _ (by rw [sg_lo hp]; exact a) (.inl (by rw [sg_lo hp]; exact hp))]
      exact r1.m p a hp o }
  have r3 := mr_rel (F := F) (F' := F') (h := h) (c := c) (s := (c' : Int) - c) (d := (c' : Int) - c) (by omega) t (h + c : Nat) _ _ _ _ (by omega)
    (fun j a b => ⟨.inr a, sg_hi (by omega), by have := I.f (p := j) (by omega) (by omega) (.inr a); rwa [sg_hi (by omega)] at this⟩) (by rw [mt_len, mt_len]; simp; omega) (by rw [mt_len, mt_len]; simp; omega) r2
  rw [show ((h + c : Nat) : Int) + ((c' : Int) - c) = (h + c' : Nat) by omega, ← e0, ← e0'] at r3
  exact fun p a b o => r3.m p a (by omega) o

/-- The isolate's own opener matches the place behind the contents. -/
theorem matches_own (I : Iso F F' h c c' t) : rd (matchesM F) (h - 1 : Nat) = (h + c : Nat) := by
  have hl := I.len
  have hh := I.h0
  have ht := I.t0
  have hop : isOpener 19 := .inl rfl
  obtain ⟨g, rfl⟩ : ∃ g, h = g + 1 := ⟨h - 1, by omega⟩
  obtain ⟨u, rfl⟩ : ∃ u, t = u + 1 := ⟨t - 1, by omega⟩
  have hlri := I.lri
  rw [show g + 1 - 1 = g by omega] at hlri ⊢
  have e0 : matchesM F = (mt F (g + (1 + (c + (1 + u)))) 0 [] (List.replicate F.length 0)).2 := by
    unfold matchesM
    rw [← mt_match]
    congr 2; omega
  rw [e0, mt_add, mt_add F 1, mt_add F c, mt_add F 1]
  have hrg := mt_rg (F := F) g 0 [] (List.replicate F.length 0) (Int.le_refl _) (fun x hx => by cases hx)
  have hln := mt_len F g 0 [] (List.replicate F.length 0)
  generalize mt F g 0 [] (List.replicate F.length 0) = W at hrg hln
  rw [List.length_replicate] at hln
  simp only [mt]
  rw [Int.zero_add]
  unfold matchO matchS
  rw [hlri, if_pos hop, if_pos hop]
  obtain ⟨c1, c2⟩ := mt_cont (F := F) c ((g : Int) + (1 : Nat)) (W.1 ++ [(g : Int)]) (W.2.set (g : Int).toNat (-1)) (by omega) (fun j a b => by have := I.cn j (by omega) (by omega); exact ⟨this.1, this.2.1, this.2.2.1⟩)
  have hlc := mt_len F c ((g : Int) + (1 : Nat)) (W.1 ++ [(g : Int)]) (W.2.set (g : Int).toNat (-1))
  generalize mt F c ((g : Int) + (1 : Nat)) (W.1 ++ [(g : Int)]) (W.2.set (g : Int).toNat (-1)) = V at c1 c2 hlc
  rw [List.length_set] at hlc
  have hp : rd F ((g : Int) + (1 : Nat) + c) = 22 := by
    have := I.pdi
    rw [← this]; congr 1
  have h22 : ¬ isOpener 22 := by unfold isOpener; omega
  have hV : 0 < V.1.length := by rw [c1]; simp
  have hlast : lastI V.1 = g := by
    rw [c1]; unfold lastI
    rw [rd_at (by simp <;> omega) (by simp <;> omega)]
    simp
  rw [hp, if_neg h22, if_neg (by omega), if_pos ⟨rfl, hV⟩, if_neg h22, if_neg (by omega), if_pos ⟨rfl, hV⟩, hlast]
  rw [mt_fix (q := (g : Int)) (by omega) u _ _ _ (by omega) ?_]
  · rw [rd_set (by omega) (by omega) (by simp only [List.length_set]; omega), if_pos rfl]; omega
  · intro x hx
    rw [c1] at hx
    simp only [List.length_append, List.length_singleton, Nat.add_sub_cancel, List.take_left'] at hx
    have := hrg x (by simpa using hx)
    omega
end
end Go.Proofs.Ythkklpegjcnjoaa

namespace Go.Proofs.Ythkklpegjcnjoaa
open Go.Ab
set_option linter.unusedVariables false
set_option linter.unusedSimpArgs false

/-! ### An isolate's contents: explicit levels -/

/-- How many openers, embeddings and other characters that vanish stand among the first k. -/
def dp (F : List Int) : Nat → Nat
  | 0 => 0
  | k + 1 => dp F k + (if isOpener (rd F k) ∨ isRemoved (rd F k) then 1 else 0)

section
variable {F F' : List Int} {h c c' t : Nat}
theorem base_iso (I : Iso F F' h c c' t) {to : Int} (hto : 0 ≤ to ∧ to ≤ F.length) (oto : Ou h c to) : ∀ (r r' : Nat) (i : Int), 0 ≤ i → Ou h c i → to - i < r → sg h (c' - c) to - sg h (c' - c) i < r' →
    baseM F' (matchesM F') (sg h (c' - c) to) r' (sg h (c' - c) i) = baseM F (matchesM F) to r i
  | 0, r', i, h0, ho, hr, hr' => by
    have hn : ¬ sg h (c' - c) i < sg h (c' - c) to := fun x => by have := (sg_lt (by omega) ho oto).mp x; omega
    cases r' with
    | zero => rfl
    | succ r' => simp only [baseM]; rw [if_neg hn]
  | r + 1, 0, i, h0, ho, hr, hr' => by
    have hn : ¬ i < to := fun x => by have := (sg_lt (s := (c' : Int) - c) (by omega) ho oto).mpr x; omega
    simp only [baseM]; rw [if_neg hn]
  | r + 1, r' + 1, i, h0, ho, hr, hr' => by
    push_cast at hr hr'
    simp only [baseM]
    by_cases q : i < to
    · have q' := (sg_lt (s := (c' : Int) - c) (by omega) ho oto).mpr q
      rw [if_pos q, if_pos q', I.f h0 (by omega) ho]
      by_cases q0 : rd F i = 0
      · rw [if_pos q0, if_pos q0]
      rw [if_neg q0, if_neg q0]
      by_cases q1 : rd F i = 1 ∨ rd F i = 2
      · rw [if_pos q1, if_pos q1]
      rw [if_neg q1, if_neg q1]
      by_cases q2 : rd F i = 10
      · rw [if_pos q2, if_pos q2]
      rw [if_neg q2, if_neg q2]
      have hl := I.len
      have hlri := I.lri
      have hh := I.h0
      by_cases q3 : isOpener (rd F i)
      · rw [if_pos q3, if_pos q3, matches_iso I i h0 (by omega) ho]
        rcases matches_pdi F i h0 (by omega) q3 with hm | ⟨m1, m2, m3⟩
        · rw [sg_neg hm, if_pos hm, if_pos hm]
        · have om : Ou h c (rd (matchesM F) i) := by
            unfold Ou
            by_cases e : rd (matchesM F) i < h
            · exact .inl e
            · by_cases e2 : rd (matchesM F) i < (h + c : Nat)
              · exact absurd m3 (I.cn _ (by omega) e2).2.1
              · exact .inr (by omega)
          have hnn := sg_nn (s := (c' : Int) - c) (by omega) om (by omega)
          rw [if_neg (by omega), if_neg (by omega)]
          have o1 : Ou h c (rd (matchesM F) i + 1) := by
            unfold Ou at om ⊢
            by_cases e : rd (matchesM F) i = (h - 1 : Nat)
            · rw [e, hlri] at m3; omega
            · omega
          have e1 : sg h (c' - c) (rd (matchesM F) i) + 1 = sg h (c' - c) (rd (matchesM F) i + 1) := by
            unfold Ou at om o1
            rcases om with e | e
            · have : rd (matchesM F) i + 1 < h := by
                rcases o1 with e2 | e2
                · exact e2
                · by_cases e3 : rd (matchesM F) i = (h - 1 : Nat)
                  · rw [e3, hlri] at m3; omega
                  · omega
              rw [sg_lo e, sg_lo this]
            · rw [sg_hi (by omega), sg_hi (by omega)]; omega
          rw [e1]
          have hlt : sg h (c' - c) i < sg h (c' - c) (rd (matchesM F) i + 1) := (sg_lt (by omega) ho o1).mpr (by omega)
          exact base_iso I hto oto r r' _ (by omega) o1 (by omega) (by omega)
      · rw [if_neg q3, if_neg q3]
        have ne : i ≠ (h - 1 : Nat) := fun e => q3 (by rw [e, hlri]; exact .inl rfl)
        have o1 : Ou h c (i + 1) := by unfold Ou at ho ⊢; omega
        have e1 : sg h (c' - c) i + 1 = sg h (c' - c) (i + 1) := by
          unfold Ou at ho
          rcases ho with e | e
          · rw [sg_lo e, sg_lo (by omega)]
          · rw [sg_hi (by omega), sg_hi (by omega)]; omega
        rw [e1]
        exact base_iso I hto oto r r' _ (by omega) o1 (by omega) (by omega)
    · rw [if_neg q, if_neg (fun x => q ((sg_lt (by omega) ho oto).mp x))]

theorem odd_iso (I : Iso F F' h c c' t) {b : Int} {i : Int} (h0 : 0 ≤ i) (h1 : i < F.length) (ho : Ou h c i) : openOdd (pureD F' (matchesM F') b) (sg h (c' - c) i) (rd F i) = openOdd (pureD F (matchesM F) b) i (rd F i) := by
  unfold openOdd
  show (if rd F i = 21 then decide (baseM F' (matchesM F') (if rd (matchesM F') (sg h (c' - c) i) < 0 then (F'.length : Int) else rd (matchesM F') (sg h (c' - c) i)) (F'.length + 1) (sg h (c' - c) i + 1) = 1) else decide (rd F i = 20)) = (if rd F i = 21 then decide (baseM F (matchesM F) (if rd (matchesM F) i < 0 then (F.length : Int) else rd (matchesM F) i) (F.length + 1) (i + 1) = 1) else decide (rd F i = 20))
  by_cases q : rd F i = 21
  · have hl := I.len
    have hl' := I.len'
    have hlri := I.lri
    have hh := I.h0
    have ne : i ≠ (h - 1 : Nat) := fun e => by rw [e, hlri] at q; omega
    have o1 : Ou h c (i + 1) := by unfold Ou at ho ⊢; omega
    have e1 : sg h (c' - c) i + 1 = sg h (c' - c) (i + 1) := by
      unfold Ou at ho
      rcases ho with e | e
      · rw [sg_lo e, sg_lo (by omega)]
      · rw [sg_hi (by omega), sg_hi (by omega)]; omega
    have hs1 := sg_nn (s := (c' : Int) - c) (by omega) o1 (by omega)
    rw [if_pos q, if_pos q, matches_iso I i h0 h1 ho, e1]
    rcases matches_pdi F i h0 h1 (by rw [q]; exact .inr (.inr rfl)) with hm | ⟨m1, m2, m3⟩
    · rw [sg_neg hm, if_pos hm, if_pos hm]
      have := base_iso I (to := (F.length : Int)) ⟨by omega, by omega⟩ (.inr (by omega)) (F.length + 1) (F'.length + 1) (i + 1) (by omega) o1 (by push_cast; omega) (by rw [I.lsg]; push_cast; omega)
      rw [I.lsg] at this
      rw [this]
    · have om : Ou h c (rd (matchesM F) i) := by
        unfold Ou
        by_cases e : rd (matchesM F) i < h
        · exact .inl e
        · by_cases e2 : rd (matchesM F) i < (h + c : Nat)
          · exact absurd m3 (I.cn _ (by omega) e2).2.1
          · exact .inr (by omega)
      have hnn := sg_nn (s := (c' : Int) - c) (by omega) om (by omega)
      have hle : sg h (c' - c) (rd (matchesM F) i) < F'.length := by rw [← I.lsg]; exact (sg_lt (by omega) om (.inr (by omega))).mpr m2
      rw [if_neg (by omega), if_neg (by omega), base_iso I (to := rd (matchesM F) i) ⟨by omega, by omega⟩ om (F.length + 1) (F'.length + 1) (i + 1) (by omega) o1 (by push_cast; omega) (by push_cast; omega)]
  · rw [if_neg q, if_neg q]

theorem et_frame (D : TD) : ∀ (r : Nat) (i : Int) (x : XS) (L N : List Int) (p : Int), 0 ≤ i → 0 ≤ p → (p < i ∨ i + r ≤ p) → rd (et D r i x L N).2.1 p = rd L p ∧ rd (et D r i x L N).2.2 p = rd N p
  | 0, _, _, _, _, _, _, _, _ => ⟨rfl, rfl⟩
  | r + 1, i, x, L, N, p, h0, p0, hp => by
    push_cast at hp
    simp only [et]
    have := et_frame D r (i + 1) (expX D i x) (expL D i x L) (expN D i x N) p (by omega) p0 (by omega)
    rw [this.1, this.2]
    unfold expL expN
    cases expT D i x with
    | none => exact ⟨rfl, rfl⟩
    | some t =>
      simp only [plainL, plainN]
      refine ⟨set_ne h0 p0 (by omega), ?_⟩
      split
      · exact set_ne h0 p0 (by omega)
      · rfl

/-! the stack in the head -/
theorem nextM_rg (lv : Int) (odd : Bool) : lv + 1 ≤ nextM lv odd ∧ nextM lv odd ≤ lv + 2 := by unfold nextM; split <;> omega
theorem popIso_sub : ∀ (r : Nat) (E : List Ent3), ∀ e ∈ popIso r E, e ∈ E
  | 0, _, _, h => h
  | r + 1, E, e, h => by
    simp only [popIso] at h
    split at h
    · exact List.dropLast_subset _ h
    · exact List.dropLast_subset _ (popIso_sub r _ e h)
structure HdI (b : Int) (n : Nat) (x : XS) : Prop where
  op : x.op = 0
  em : x.em = 0
  is : 0 ≤ x.is
  lv : ∀ e ∈ x.E, 0 ≤ e.1 ∧ e.1 ≤ b + 2 * n
theorem topM_or (E : List Ent3) : topM E ∈ E ∨ topM E = (0, 0, false) := by
  by_cases e : E = []
  · right; rw [e]; rfl
  · left; exact topM_mem e
theorem HdI.top {b : Int} {n : Nat} {x : XS} (H : HdI b n x) (hb : 0 ≤ b) : 0 ≤ (topM x.E).1 ∧ (topM x.E).1 ≤ b + 2 * n := by
  rcases topM_or x.E with e | e
  · exact H.lv _ e
  · rw [e]; dsimp only; omega
theorem HdI.mono {b : Int} {n m : Nat} {x : XS} (H : HdI b n x) (hm : n ≤ m) : HdI b m x :=
  { H with lv := fun e he => by have := H.lv e he; omega }
theorem HdI.next {D : TD} {n : Nat} {x : XS} {i : Int} (H : HdI D.b n x) (hb : 0 ≤ D.b ∧ D.b ≤ 1) (hn : n ≤ 60) : HdI D.b (n + (if isOpener (rd D.F i) ∨ isRemoved (rd D.F i) then 1 else 0)) (expX D i x) := by
  have ht := H.top hb.1
  have his := H.is
  have hop := H.op
  have hem := H.em
  generalize hk : (if isOpener (rd D.F i) ∨ isRemoved (rd D.F i) then 1 else 0) = k
  unfold expX
  by_cases c1 : isEmb (rd D.F i)
  · have hr : isRemoved (rd D.F i) := by unfold isEmb at c1; unfold isRemoved; omega
    have hg := nextM_rg (topM x.E).1 (decide (rd D.F i = 16 ∨ rd D.F i = 17))
    rw [if_pos (.inr hr)] at hk
    rw [if_pos c1, if_pos ⟨by unfold embLevel; omega, hop, hem⟩]
    refine ⟨hop, hem, his, fun e he => ?_⟩
    rcases List.mem_append.mp he with he | he
    · have := H.lv e he; omega
    · rw [List.mem_singleton.mp he]; unfold embLevel; dsimp only; omega
  rw [if_neg c1]
  by_cases c2 : isOpener (rd D.F i)
  · have hg := nextM_rg (topM x.E).1 (openOdd D i (rd D.F i))
    rw [if_pos (.inl c2)] at hk
    rw [if_pos c2, if_pos ⟨by unfold openLevel; omega, hop, hem⟩]
    refine ⟨hop, hem, by dsimp only; omega, fun e he => ?_⟩
    rcases List.mem_append.mp he with he | he
    · have := H.lv e he; omega
    · rw [List.mem_singleton.mp he]; unfold openLevel; dsimp only; omega
  rw [if_neg c2]
  by_cases c3 : rd D.F i = 22
  · rw [if_pos c3]
    refine HdI.mono (n := n) ?_ (Nat.le_add_right _ _)
    refine ⟨by unfold shutOp; rw [if_neg (by omega)]; exact hop, by unfold shutEm; rw [if_neg (by omega)]; split <;> first | rfl | exact hem, by unfold shutIs; rw [if_neg (by omega)]; split <;> dsimp only <;> omega, fun e he => H.lv e ?_⟩
    unfold shutE at he
    rw [if_neg (by omega)] at he
    split at he
    · exact popIso_sub _ _ e he
    · exact he
  rw [if_neg c3]
  by_cases c4 : rd D.F i = 18
  · rw [if_pos c4, if_neg (by omega), if_neg (by omega)]
    split
    · refine HdI.mono (n := n) ?_ (Nat.le_add_right _ _)
      exact ⟨hop, hem, his, fun e he => H.lv e (List.dropLast_subset _ he)⟩
    · exact H.mono (Nat.le_add_right _ _)
  rw [if_neg c4]
  by_cases c5 : rd D.F i = 10
  · rw [if_pos c5]
    refine ⟨rfl, rfl, Int.le_refl _, fun e he => ?_⟩
    rw [List.mem_singleton.mp he]; dsimp only; omega
  · rw [if_neg c5]; exact H.mono (Nat.le_add_right _ _)
theorem dp_mono (F : List Int) : ∀ (r k : Nat), dp F k ≤ dp F (k + r)
  | 0, _ => Nat.le_refl _
  | r + 1, k => by
    have := dp_mono F r k
    show dp F k ≤ dp F (k + r) + _
    omega
theorem et_hd {D : TD} (hb : 0 ≤ D.b ∧ D.b ≤ 1) : ∀ (r k : Nat) (x : XS) (L N : List Int), HdI D.b (dp D.F k) x → dp D.F (k + r) ≤ 60 → HdI D.b (dp D.F (k + r)) (et D r k x L N).1
  | 0, k, x, L, N, H, _ => H
  | r + 1, k, x, L, N, H, hd => by
    simp only [et]
    have hm := dp_mono D.F (r + 1) k
    have h1 := H.next (i := (k : Int)) hb (by omega)
    have := et_hd hb r (k + 1) (expX D k x) (expL D k x L) (expN D k x N) h1 (by rw [show k + 1 + r = k + (r + 1) by omega]; exact hd)
    rw [show k + 1 + r = k + (r + 1) by omega] at this
    exact this

/-! the stack in the contents -/
structure CnI (E : List Ent3) (v is : Int) (x : XS) : Prop where
  es : ∃ es, x.E = E ++ [(v, -1, true)] ++ es ∧ ∀ e ∈ es, e.2.2 = false ∧ v ≤ e.1
  op : x.op = 0
  is : x.is = is + 1
theorem snoc_or {α : Type} (l : List α) : l = [] ∨ ∃ l' a, l = l' ++ [a] := by
  by_cases e : l = []
  · exact .inl e
  · exact .inr ⟨l.dropLast, l.getLast e, (List.dropLast_concat_getLast e).symm⟩
theorem CnI.top {E : List Ent3} {v is : Int} {x : XS} (H : CnI E v is x) : v ≤ (topM x.E).1 := by
  obtain ⟨es, e1, e2⟩ := H.es
  rcases snoc_or es with rfl | ⟨l, a, rfl⟩
  · rw [e1, List.append_nil, topM_snoc]; exact Int.le_refl _
  · rw [e1, ← List.append_assoc, topM_snoc]; exact (e2 a (by simp)).2
theorem CnI.next {D : TD} {E : List Ent3} {v is : Int} {x : XS} {i : Int} (H : CnI E v is x) (h1 : ¬ isOpener (rd D.F i)) (h2 : rd D.F i ≠ 22) (h3 : rd D.F i ≠ 10) : CnI E v is (expX D i x) := by
  have ht := H.top
  obtain ⟨es, e1, e2⟩ := H.es
  unfold expX
  rw [if_neg h1, if_neg h2, if_neg h3]
  by_cases c1 : isEmb (rd D.F i)
  · rw [if_pos c1]
    split
    · have hg := nextM_rg (topM x.E).1 (decide (rd D.F i = 16 ∨ rd D.F i = 17))
      refine { es := ⟨es ++ [(embLevel x.E (rd D.F i), embOver (rd D.F i), false)], ?_, fun e he => ?_⟩, op := H.op, is := H.is }
      · dsimp only; rw [e1]; simp only [List.append_assoc]
      · rcases List.mem_append.mp he with he | he
        · exact e2 e he
        · rw [List.mem_singleton.mp he]; unfold embLevel; dsimp only; exact ⟨rfl, by omega⟩
    · exact { es := ⟨es, e1, e2⟩, op := H.op, is := H.is }
  rw [if_neg c1]
  by_cases c4 : rd D.F i = 18
  · rw [if_pos c4]
    split
    · exact H
    split
    · exact { es := ⟨es, e1, e2⟩, op := H.op, is := H.is }
    split
    · rename_i hh
      rcases snoc_or es with rfl | ⟨l, a, rfl⟩
      · rw [e1, List.append_nil, topM_snoc] at hh; exact absurd hh.2 (by simp)
      · exact { es := ⟨l, by dsimp only; rw [e1, ← List.append_assoc, List.dropLast_concat], fun e he => e2 e (List.mem_append_left _ he)⟩, op := H.op, is := H.is }
    · exact H
  · rw [if_neg c4]; exact H
theorem popIso_es {E : List Ent3} {v : Int} : ∀ (r : Nat) (es : List Ent3), (∀ e ∈ es, e.2.2 = false) → es.length < r → popIso r (E ++ [(v, -1, true)] ++ es) = E
  | 0, _, _, h => by omega
  | r + 1, es, h, hr => by
    simp only [popIso]
    rcases snoc_or es with rfl | ⟨l, a, rfl⟩
    · rw [List.append_nil, topM_snoc, if_pos rfl, List.dropLast_concat]
    · rw [← List.append_assoc, topM_snoc, h a (by simp), if_neg (by simp), List.dropLast_concat]
      exact popIso_es r l (fun e he => h e (List.mem_append_left _ he)) (by simp at hr; omega)
theorem et_cn {D : TD} {E : List Ent3} {v is lo : Int} (h0 : 0 ≤ lo) : ∀ (r : Nat) (i : Int) (x : XS) (L N : List Int), lo ≤ i → i + r ≤ L.length → (∀ j : Int, i ≤ j → j < i + r → ¬ isOpener (rd D.F j) ∧ rd D.F j ≠ 22 ∧ rd D.F j ≠ 10) → CnI E v is x → (∀ p : Int, lo ≤ p → p < i → ¬ isRemoved (rd D.F p) → v ≤ rd L p) →
    CnI E v is (et D r i x L N).1 ∧ ∀ p : Int, lo ≤ p → p < i + r → ¬ isRemoved (rd D.F p) → v ≤ rd (et D r i x L N).2.1 p
  | 0, i, x, L, N, _, _, _, H, hp => ⟨H, fun p a b => hp p a (by simpa using b)⟩
  | r + 1, i, x, L, N, hi, hl, hc, H, hp => by
    push_cast at hl
    obtain ⟨h1, h2, h3⟩ := hc i (Int.le_refl _) (by push_cast; omega)
    simp only [et]
    have := et_cn (D := D) (E := E) (v := v) (is := is) h0 r (i + 1) (expX D i x) (expL D i x L) (expN D i x N) (by omega) (by rw [expL_length]; omega) (fun j a b => hc j (by omega) (by push_cast; omega)) (H.next h1 h2 h3) (fun p a b nr => by
      unfold expL expT
      rw [if_neg h1, if_neg h2, if_neg h3]
      by_cases e : p = i
      · subst e
        have n1 : ¬ isEmb (rd D.F p) := fun x => nr (by unfold isEmb at x; unfold isRemoved; omega)
        have n2 : ¬ rd D.F p = 18 := fun x => nr (by unfold isRemoved; omega)
        have n3 : ¬ rd D.F p = 9 := fun x => nr (by unfold isRemoved; omega)
        rw [if_neg n1, if_neg n2, if_neg n3]
        dsimp only [plainL]
        rw [rd_set (by omega) (by omega) (by omega), if_pos rfl]
        exact H.top
      · have hpo := hp p a (by omega) nr
        split
        · dsimp only [plainL]; rw [set_ne (by omega) (by omega) (fun x => e x.symm)]; exact hpo
        · exact hpo)
    rw [show i + ((r + 1 : Nat) : Int) = i + 1 + (r : Int) by push_cast; omega]
    exact this
end
end Go.Proofs.Ythkklpegjcnjoaa

namespace Go.Proofs.Ythkklpegjcnjoaa
open Go.Ab
set_option linter.unusedVariables false
set_option linter.unusedSimpArgs false

/-! ### An isolate's contents: explicit levels, put together -/

def x0 (b : Int) : XS := ⟨[(b, -1, false)], 0, 0, 0⟩
def eW (F : List Int) (b : Int) (h : Nat) : XS × List Int × List Int := et (pureD F (matchesM F) b) h 0 (x0 b) (List.replicate F.length 0) F

section
variable {F F' : List Int} {h c c' t : Nat}
theorem et_head {b : Int} {g : Nat} (hb : 0 ≤ b ∧ b ≤ 1) (hl : rd F g = 19) (hg : g < F.length) (hd : dp F g ≤ 60) : ∃ E v is, (eW F b (g + 1)).1 = ⟨E ++ [(v, -1, true)], 0, 0, is + 1⟩ ∧ 0 ≤ is ∧ (topM E).1 < v ∧ rd (eW F b (g + 1)).2.1 g = (topM E).1 := by
  unfold eW
  rw [et_add]
  have H := et_hd (D := pureD F (matchesM F) b) hb g 0 (x0 b) (List.replicate F.length 0) F ⟨rfl, rfl, Int.le_refl _, fun e he => by rw [List.mem_singleton.mp he]; show 0 ≤ b ∧ b ≤ b + 2 * ((dp F 0 : Nat) : Int); omega⟩ (by rw [Nat.zero_add]; exact hd)
  rw [Nat.zero_add] at H
  have hln := et_len (pureD F (matchesM F) b) g 0 (x0 b) (List.replicate F.length 0) F
  rw [show ((0 : Nat) : Int) = 0 from rfl] at H
  generalize et (pureD F (matchesM F) b) g 0 (x0 b) (List.replicate F.length 0) F = W at H hln
  rw [List.length_replicate] at hln
  simp only [et]
  rw [Int.zero_add]
  have hF : rd (pureD F (matchesM F) b).F g = 19 := hl
  have h1 : ¬ isEmb 19 := by unfold isEmb; omega
  have h2 : isOpener 19 := .inl rfl
  have ht := H.top hb.1
  have hgn := nextM_rg (topM W.1.E).1 (openOdd (pureD F (matchesM F) b) g 19)
  have hdb : (pureD F (matchesM F) b).b = b := rfl
  have hdd : dp (pureD F (matchesM F) b).F g = dp F g := rfl
  rw [hdb, hdd] at ht
  refine ⟨W.1.E, openLevel (pureD F (matchesM F) b) W.1.E g 19, W.1.is, ?_, H.is, ?_, ?_⟩
  · unfold expX
    rw [hF, if_neg h1, if_pos h2, if_pos ⟨by unfold openLevel; omega, H.op, H.em⟩, H.op, H.em]
  · unfold openLevel; omega
  · unfold expL expT
    rw [hF, if_neg h1, if_pos h2]
    dsimp only [plainL]
    rw [rd_set (by omega) (by omega) (by rw [hln.1]; omega), if_pos rfl]

structure Parts (F : List Int) (b : Int) (h c u : Nat) (E : List Ent3) (v is : Int) (L2 N2 : List Int) : Prop where
  ex : explM F b = (et (pureD F (matchesM F) b) u ((h + c : Nat) + 1) ⟨E, 0, 0, is⟩ (L2.set (h + c) (topM E).1) (plainN (topM E) N2 (h + c : Nat))).2
  x : (eW F b h).1 = ⟨E ++ [(v, -1, true)], 0, 0, is + 1⟩
  lt : (topM E).1 < v
  ll : L2.length = F.length
  nl : N2.length = F.length
  hi : ∀ q : Int, (h + c : Nat) ≤ q → rd L2 q = 0 ∧ rd N2 q = rd F q
  lo : ∀ q : Int, 0 ≤ q → q < h → rd L2 q = rd (eW F b h).2.1 q ∧ rd N2 q = rd (eW F b h).2.2 q
  cn : ∀ p : Int, h ≤ p → p < (h + c : Nat) → ¬ isRemoved (rd F p) → v ≤ rd L2 p
  own : rd (eW F b h).2.1 (h - 1 : Nat) = (topM E).1

theorem et_parts {b : Int} {u : Nat} (I : Iso F F' h c c' (u + 1)) (hb : 0 ≤ b ∧ b ≤ 1) (hd : dp F (h - 1) ≤ 60) : ∃ E v is L2 N2, Parts F b h c u E v is L2 N2 := by
  have hl := I.len
  obtain ⟨g, rfl⟩ : ∃ g, h = g + 1 := ⟨h - 1, by have := I.h0; omega⟩
  have hlri := I.lri
  rw [show g + 1 - 1 = g by omega] at hd hlri
  obtain ⟨E, v, is, e1, e2, e3, e4⟩ := et_head hb hlri (by omega) hd
  have hlW : (eW F b (g + 1)).2.1.length = F.length ∧ (eW F b (g + 1)).2.2.length = F.length := by
    have := et_len (pureD F (matchesM F) b) (g + 1) 0 (x0 b) (List.replicate F.length 0) F
    rw [List.length_replicate] at this; exact this
  have hfW : ∀ q : Int, (g + 1 : Nat) ≤ q → rd (eW F b (g + 1)).2.1 q = 0 ∧ rd (eW F b (g + 1)).2.2 q = rd F q := fun q a => by
    have := et_frame (pureD F (matchesM F) b) (g + 1) 0 (x0 b) (List.replicate F.length 0) F q (Int.le_refl _) (by omega) (.inr (by omega))
    rw [rep_zero'] at this; exact this
  have ex0 : explM F b = (et (pureD F (matchesM F) b) (1 + u) (g + 1 + c : Nat) (et (pureD F (matchesM F) b) c (g + 1 : Nat) (eW F b (g + 1)).1 (eW F b (g + 1)).2.1 (eW F b (g + 1)).2.2).1 (et (pureD F (matchesM F) b) c (g + 1 : Nat) (eW F b (g + 1)).1 (eW F b (g + 1)).2.1 (eW F b (g + 1)).2.2).2.1 (et (pureD F (matchesM F) b) c (g + 1 : Nat) (eW F b (g + 1)).1 (eW F b (g + 1)).2.1 (eW F b (g + 1)).2.2).2.2).2 := by
    unfold explM eW
    rw [← et_exp]
    conv => lhs; rw [show F.length = (g + 1) + (c + (1 + u)) by omega, et_add, et_add]
    rw [Int.zero_add, show g + 1 + (c + (1 + u)) = F.length by omega, show ((g + 1 : Nat) : Int) + c = (g + 1 + c : Nat) by omega]
    rfl
  obtain ⟨k1, k2⟩ := et_cn (D := pureD F (matchesM F) b) (E := E) (v := v) (is := is) (lo := (g + 1 : Nat)) (by omega) c (g + 1 : Nat) (eW F b (g + 1)).1 (eW F b (g + 1)).2.1 (eW F b (g + 1)).2.2 (Int.le_refl _) (by rw [hlW.1]; omega)
    (fun j a q => by have := I.cn j a (by omega); exact ⟨this.1, this.2.1, this.2.2.1⟩) (by rw [e1]; exact ⟨⟨[], by rw [List.append_nil], fun e he => by cases he⟩, rfl, rfl⟩) (fun p a q => by omega)
  have hfV := fun q a d => et_frame (pureD F (matchesM F) b) c (g + 1 : Nat) (eW F b (g + 1)).1 (eW F b (g + 1)).2.1 (eW F b (g + 1)).2.2 q (by omega) a d
  have hlV := et_len (pureD F (matchesM F) b) c (g + 1 : Nat) (eW F b (g + 1)).1 (eW F b (g + 1)).2.1 (eW F b (g + 1)).2.2
  generalize et (pureD F (matchesM F) b) c (g + 1 : Nat) (eW F b (g + 1)).1 (eW F b (g + 1)).2.1 (eW F b (g + 1)).2.2 = V at ex0 k1 k2 hfV hlV
  rw [hlW.1, hlW.2] at hlV
  have hp : rd (pureD F (matchesM F) b).F (g + 1 + c : Nat) = 22 := I.pdi
  have n1 : ¬ isEmb 22 := by unfold isEmb; omega
  have n2 : ¬ isOpener 22 := by unfold isOpener; omega
  obtain ⟨es, q1, q2⟩ := k1.es
  have hsh : shutE V.1.E 0 (is + 1) = E := by
    unfold shutE
    rw [if_neg (by omega), if_pos (by omega), q1]
    exact popIso_es _ _ (fun e he => (q2 e he).1) (by simp; omega)
  refine ⟨E, v, is, V.2.1, V.2.2, { ex := ?_, x := e1, lt := e3, ll := hlV.1, nl := hlV.2, hi := fun q a => ?_, lo := fun q a d => ?_, cn := fun p a d nr => k2 p a (by omega) nr, own := e4 }⟩
  · rw [ex0, et_add]
    simp only [et]
    have hX : expX (pureD F (matchesM F) b) (g + 1 + c : Nat) V.1 = ⟨E, 0, 0, is⟩ := by
      unfold expX
      rw [hp, if_neg n1, if_neg n2, if_pos rfl, k1.op, k1.is, hsh]
      unfold shutOp shutEm shutIs
      rw [if_neg (by omega), if_neg (by omega), if_pos (by omega), if_neg (by omega), if_pos (by omega)]
      congr 1; omega
    have hT : expT (pureD F (matchesM F) b) (g + 1 + c : Nat) V.1 = some (topM E) := by
      unfold expT
      rw [hp, if_neg n1, if_neg n2, if_pos rfl, k1.op, k1.is, hsh]
    unfold expL expN
    rw [hX, hT]
    rfl
  · rw [(hfV q (by omega) (.inr (by omega))).1, (hfV q (by omega) (.inr (by omega))).2]
    exact hfW q (by omega)
  · exact hfV q a (.inl (by omega))

theorem expl_len (F : List Int) (b : Int) : (explM F b).1.length = F.length ∧ (explM F b).2.length = F.length := by
  unfold explM; rw [(expM_length _ _ _ _ _).1, (expM_length _ _ _ _ _).2]; simp
theorem dp_congr : ∀ (k : Nat), (∀ p : Int, 0 ≤ p → p < k → rd F' p = rd F p) → dp F' k = dp F k
  | 0, _ => rfl
  | k + 1, hk => by
    simp only [dp]
    rw [dp_congr k (fun p a q => hk p a (by push_cast; omega)), hk (k : Int) (by omega) (by push_cast; omega)]

theorem expl_iso {b : Int} (I : Iso F F' h c c' t) (hb : 0 ≤ b ∧ b ≤ 1) (hd : dp F (h - 1) ≤ 60) :
    (∀ p : Int, 0 ≤ p → p < F.length → Ou h c p → rd (explM F' b).1 (sg h (c' - c) p) = rd (explM F b).1 p ∧ rd (explM F' b).2 (sg h (c' - c) p) = rd (explM F b).2 p) ∧
    (∀ p : Int, h ≤ p → p < (h + c : Nat) → ¬ isRemoved (rd F p) → rd (explM F b).1 (h - 1 : Nat) < rd (explM F b).1 p) ∧
    (∀ p : Int, h ≤ p → p < (h + c' : Nat) → ¬ isRemoved (rd F' p) → rd (explM F' b).1 (h - 1 : Nat) < rd (explM F' b).1 p) ∧
    rd (explM F b).1 (h + c : Nat) = rd (explM F b).1 (h - 1 : Nat) := by
  obtain ⟨u, rfl⟩ : ∃ u, t = u + 1 := ⟨t - 1, by have := I.t0; omega⟩
  have hh := I.h0
  have hl := I.len
  have hl' := I.len'
  have hd' : dp F' (h - 1) ≤ 60 := by rw [dp_congr (F := F) (h - 1) (fun p a q => I.hd p a (by omega))]; exact hd
  obtain ⟨E, v, is, L2, N2, P⟩ := et_parts I hb hd
  obtain ⟨E', v', is', L2', N2', P'⟩ := et_parts I.two hb hd'
  -- the head
  have hodd : ∀ i : Int, 0 ≤ i → i < F.length → Ou h c i → rd (pureD F' (matchesM F') b).F (sg h (c' - c) i) = rd (pureD F (matchesM F) b).F i ∧ openOdd (pureD F' (matchesM F') b) (sg h (c' - c) i) (rd (pureD F (matchesM F) b).F i) = openOdd (pureD F (matchesM F) b) i (rd (pureD F (matchesM F) b).F i) := fun i a d o => ⟨I.f a d o, odd_iso I a d o⟩
  obtain ⟨x1, r1⟩ := et_rel (s := 0) (lo := 0) (hi := h) (D := pureD F (matchesM F) b) (D' := pureD F' (matchesM F') b) (L0 := List.replicate F'.length 0) (N0 := F') (Int.le_refl _) (by omega) rfl (fun i a d => by
      have := hodd i a (by omega) (.inl d)
      rw [sg_lo d] at this
      rw [Int.add_zero]; exact this) h 0 (x0 b) (List.replicate F.length 0) F (List.replicate F'.length 0) F' (Int.le_refl _) (by omega) (by simp; omega)
    { l := fun p a d => by rw [rep_zero', rep_zero'], n := fun p a d => by rw [Int.add_zero]; exact I.hd p a d, ol := fun _ _ _ => rfl, on := fun _ _ _ => rfl }
  rw [Int.zero_add] at x1 r1
  have x1' : (eW F' b h).1 = (eW F b h).1 := x1
  rw [P.x, P'.x] at x1'
  have hE := congrArg XS.E x1'
  dsimp only at hE
  obtain ⟨rfl, hv⟩ := List.append_inj' hE rfl
  have hv2 : v' = v := by simpa using hv
  have hi2 : is' = is := by have := congrArg XS.is x1'; dsimp only at this; omega
  subst hv2 hi2
  -- the tail
  have hst : ∀ (L2 N2 G : List Int) (hc : Nat) (q : Int), (hi : ∀ q : Int, (hc : Nat) ≤ q → rd L2 q = 0 ∧ rd N2 q = rd G q) → hc < L2.length → hc < N2.length → (hc : Int) ≤ q → rd (L2.set hc (topM E').1) q = (if q = hc then (topM E').1 else 0) ∧ rd (plainN (topM E') N2 hc) q = (if q = hc ∧ (topM E').2.1 ≠ -1 then (topM E').2.1 else rd G q) := fun L2 N2 G hc q hi a d e => by
    have h1 := rd_set (L := L2) (i := (hc : Int)) (j := q) (x := (topM E').1) (by omega) (by omega) (by omega)
    rw [Int.toNat_natCast, (hi q e).1] at h1
    refine ⟨h1, ?_⟩
    unfold plainN
    by_cases k : (topM E').2.1 ≠ -1
    · rw [if_pos k, rd_set (by omega) (by omega) (by omega), (hi q e).2]
      by_cases k2 : q = hc
      · rw [if_pos k2, if_pos ⟨k2, k⟩]
      · rw [if_neg k2, if_neg (fun x => k2 x.1)]
    · rw [if_neg k, if_neg (fun x => k x.2), (hi q e).2]
  have hpl : ∀ (e : Ent3) (N : List Int) (i : Int), (plainN e N i).length = N.length := fun e N i => plainN_length
  obtain ⟨_, r2⟩ := et_rel (s := (c' : Int) - c) (lo := (h + c : Nat)) (hi := F.length) (D := pureD F (matchesM F) b) (D' := pureD F' (matchesM F') b) (L0 := L2'.set (h + c') (topM E').1) (N0 := plainN (topM E') N2' (h + c' : Nat)) (by omega) (by omega) rfl (fun i a d => by
      have := hodd i (by omega) (by omega) (.inr a)
      rw [sg_hi (by omega)] at this; exact this) u ((h + c : Nat) + 1) ⟨E', 0, 0, is'⟩ (L2.set (h + c) (topM E').1) (plainN (topM E') N2 (h + c : Nat)) (L2'.set (h + c') (topM E').1) (plainN (topM E') N2' (h + c' : Nat)) (by omega) (by omega)
      (by rw [hpl, hpl, List.length_set, List.length_set, P.ll, P.nl, P'.ll, P'.nl]; omega)
      { l := fun p a d => by
          rw [(hst L2 N2 F (h + c) p P.hi (by rw [P.ll]; omega) (by rw [P.nl]; omega) a).1, (hst L2' N2' F' (h + c') (p + (c' - c)) P'.hi (by rw [P'.ll]; omega) (by rw [P'.nl]; omega) (by omega)).1]
          by_cases k : p = (h + c : Nat)
          · rw [if_pos k, if_pos (by omega)]
          · rw [if_neg k, if_neg (by omega)]
        n := fun p a d => by
          rw [(hst L2 N2 F (h + c) p P.hi (by rw [P.ll]; omega) (by rw [P.nl]; omega) a).2, (hst L2' N2' F' (h + c') (p + (c' - c)) P'.hi (by rw [P'.ll]; omega) (by rw [P'.nl]; omega) (by omega)).2]
          have hf := I.f (p := p) (by omega) d (.inr a)
          rw [sg_hi (by omega)] at hf
          rw [hf]
          by_cases k : p = (h + c : Nat) ∧ (topM E').2.1 ≠ -1
          · rw [if_pos k, if_pos ⟨by omega, k.2⟩]
          · rw [if_neg k, if_neg (fun x => k ⟨by omega, x.2⟩)]
        ol := fun _ _ _ => rfl, on := fun _ _ _ => rfl }
  rw [show ((h + c : Nat) : Int) + 1 + ((c' : Int) - c) = (h + c' : Nat) + 1 by omega, ← P.ex, ← P'.ex] at r2
  -- ahead of the tail nothing changes any more
  have fr : ∀ q : Int, 0 ≤ q → q < (h + c : Nat) → rd (explM F b).1 q = rd L2 q ∧ rd (explM F b).2 q = rd N2 q := fun q a d => by
    rw [P.ex]
    have := et_frame (pureD F (matchesM F) b) u ((h + c : Nat) + 1) ⟨E', 0, 0, is'⟩ (L2.set (h + c) (topM E').1) (plainN (topM E') N2 (h + c : Nat)) q (by omega) a (.inl (by omega))
    rw [this.1, this.2]
    refine ⟨?_, ?_⟩
    · have := set_ne (N := L2) (k := ((h + c : Nat) : Int)) (q := q) (x := (topM E').1) (by omega) a (by omega)
      rwa [Int.toNat_natCast] at this
    · unfold plainN; split
      · exact set_ne (by omega) a (by omega)
      · rfl
  have fr' : ∀ q : Int, 0 ≤ q → q < (h + c' : Nat) → rd (explM F' b).1 q = rd L2' q ∧ rd (explM F' b).2 q = rd N2' q := fun q a d => by
    rw [P'.ex]
    have := et_frame (pureD F' (matchesM F') b) u ((h + c' : Nat) + 1) ⟨E', 0, 0, is'⟩ (L2'.set (h + c') (topM E').1) (plainN (topM E') N2' (h + c' : Nat)) q (by omega) a (.inl (by omega))
    rw [this.1, this.2]
    refine ⟨?_, ?_⟩
    · have := set_ne (N := L2') (k := ((h + c' : Nat) : Int)) (q := q) (x := (topM E').1) (by omega) a (by omega)
      rwa [Int.toNat_natCast] at this
    · unfold plainN; split
      · exact set_ne (by omega) a (by omega)
      · rfl
  have ownF : rd (explM F b).1 (h - 1 : Nat) = (topM E').1 := by rw [(fr _ (by omega) (by omega)).1, (P.lo _ (by omega) (by omega)).1]; exact P.own
  have ownF' : rd (explM F' b).1 (h - 1 : Nat) = (topM E').1 := by rw [(fr' _ (by omega) (by omega)).1, (P'.lo _ (by omega) (by omega)).1]; exact P'.own
  refine ⟨fun p a d o => ?_, fun p a d nr => ?_, fun p a d nr => ?_, ?_⟩
  · unfold Ou at o
    by_cases e : p < h
    · rw [sg_lo e, (fr p a (by omega)).1, (fr p a (by omega)).2, (fr' p a (by omega)).1, (fr' p a (by omega)).2, (P.lo p a e).1, (P.lo p a e).2, (P'.lo p a e).1, (P'.lo p a e).2]
      have h1 := r1.l p a e
      have h2 := r1.n p a e
      rw [Int.add_zero] at h1 h2
      exact ⟨h1, h2⟩
    · rw [sg_hi (by omega)]
      exact ⟨r2.l p (by omega) d, r2.n p (by omega) d⟩
  · rw [ownF, (fr p (by omega) d).1]
    have := P.cn p a d nr
    have := P.lt
    omega
  · rw [ownF', (fr' p (by omega) d).1]
    have := P'.cn p a d nr
    have := P'.lt
    omega
  · rw [ownF, P.ex]
    have := et_frame (pureD F (matchesM F) b) u ((h + c : Nat) + 1) ⟨E', 0, 0, is'⟩ (L2.set (h + c) (topM E').1) (plainN (topM E') N2 (h + c : Nat)) (h + c : Nat) (by omega) (by omega) (.inl (by omega))
    rw [this.1, (hst L2 N2 F (h + c) _ P.hi (by rw [P.ll]; omega) (by rw [P.nl]; omega) (by omega)).1, if_pos rfl]
end
end Go.Proofs.Ythkklpegjcnjoaa

namespace Go.Proofs.Ythkklpegjcnjoaa
open Go.Ab
set_option linter.unusedVariables false
set_option linter.unusedSimpArgs false

/-! ### An isolate's contents: sequences -/

def sgS (h : Nat) (s : Int) (e : SE) : SE := ⟨e.A.map (sg h s), e.lv, e.st, e.en⟩
def Cn (h c : Nat) (p : Int) : Prop := h ≤ p ∧ p < (h + c : Nat)
theorem orderM_pre (F : List Int) (r : Nat) (i : Int) (O : List Int) : orderM F r i O = O ++ orderM F r i [] := by
  have := orderM_rel (F := F) (F' := F) (s := 0) (P := O) r i [] (fun t _ _ => by rw [Int.add_zero])
  rw [Int.add_zero] at this
  simp only [List.map_nil, List.append_nil, Int.add_zero, List.map_id'] at this
  rw [this]
theorem orderM_mem {F : List Int} {x : Int} : ∀ (r : Nat) (i : Int) (O : List Int), x ∈ orderM F r i O ↔ x ∈ O ∨ (i ≤ x ∧ x < i + r ∧ ¬ isRemoved (rd F x))
  | 0, i, O => by
    simp only [orderM]
    constructor
    · exact .inl
    · rintro (h | h)
      · exact h
      · omega
  | r + 1, i, O => by
    simp only [orderM]
    rw [orderM_mem r (i + 1)]
    by_cases c : isRemoved (rd F i)
    · rw [if_pos c]
      refine or_congr_right ⟨fun h => ⟨by omega, by push_cast; omega, h.2.2⟩, fun h => ⟨?_, by have := h.2.1; push_cast at this; omega, h.2.2⟩⟩
      by_cases e : x = i
      · rw [e] at h; exact absurd c h.2.2
      · omega
    · rw [if_neg c, List.mem_append, List.mem_singleton]
      constructor
      · rintro ((h | h) | h)
        · exact .inl h
        · exact .inr ⟨by omega, by push_cast; omega, by rw [h]; exact c⟩
        · exact .inr ⟨by omega, by push_cast; omega, h.2.2⟩
      · rintro (h | h)
        · exact .inl (.inl h)
        · by_cases e : x = i
          · exact .inl (.inr e)
          · exact .inr ⟨by omega, by have := h.2.1; push_cast at this; omega, h.2.2⟩

structure SQI (F L M O F' L' M' O' : List Int) (h c c' a m m' w : Nat) : Prop where
  ol : O.length = a + m + w
  ol' : O'.length = a + m' + w
  a0 : 0 < a
  w0 : 0 < w
  m0 : 0 < m
  m0' : 0 < m'
  h0 : 0 < h
  hc : h + c < F.length
  oa : ∀ k : Int, 0 ≤ k → k < a → rd O' k = rd O k ∧ 0 ≤ rd O k ∧ rd O k < h
  ot : ∀ k : Int, (a + m : Nat) ≤ k → k < O.length → rd O' (k + (m' - m)) = rd O k + (c' - c) ∧ (h + c : Nat) ≤ rd O k ∧ rd O k < F.length
  oc : ∀ k : Int, a ≤ k → k < (a + m : Nat) → Cn h c (rd O k)
  oc' : ∀ k : Int, a ≤ k → k < (a + m' : Nat) → Cn h c' (rd O' k)
  la : rd O (a - 1 : Nat) = (h - 1 : Nat)
  ft : rd O (a + m : Nat) = (h + c : Nat)
  ff : ∀ p : Int, 0 ≤ p → p < F.length → Ou h c p → rd F' (sg h (c' - c) p) = rd F p
  fl : ∀ p : Int, 0 ≤ p → p < F.length → Ou h c p → rd L' (sg h (c' - c) p) = rd L p
  fm : ∀ p : Int, 0 ≤ p → p < F.length → Ou h c p → rd M' (sg h (c' - c) p) = sg h (c' - c) (rd M p)
  mr : ∀ p : Int, 0 ≤ p → p < F.length → Ou h c p → isOpener (rd F p) → rd M p < 0 ∨ (rd M p < F.length ∧ Ou h c (rd M p))
  lc : ∀ k : Int, a ≤ k → k < (a + m : Nat) → rd L (h - 1 : Nat) < rd L (rd O k)
  lc' : ∀ k : Int, a ≤ k → k < (a + m' : Nat) → rd L' (h - 1 : Nat) < rd L' (rd O' k)
  lp : rd L (h + c : Nat) = rd L (h - 1 : Nat)
  mo : rd M (h - 1 : Nat) = (h + c : Nat)
  lri : rd F (h - 1 : Nat) = 19
  fc : ∀ p : Int, Cn h c p → ¬ isOpener (rd F p)
  fc' : ∀ p : Int, Cn h c' p → ¬ isOpener (rd F' p)

section
variable {F L M O F' L' M' O' : List Int} {h c c' a m m' w : Nat} (Q : SQI F L M O F' L' M' O' h c c' a m m' w) {b : Int}
include Q
theorem SQI.Lh : rd L' (h - 1 : Nat) = rd L (h - 1 : Nat) := by
  have := Q.h0
  have := Q.hc
  have h1 := Q.fl (h - 1 : Nat) (by omega) (by omega) (.inl (by omega))
  rwa [sg_lo (by omega)] at h1
theorem SQI.F1 {k : Int} (h0 : 0 ≤ k) (h1 : k < a) : rd F' (rd O' k) = rd F (rd O k) ∧ rd L' (rd O' k) = rd L (rd O k) := by
  obtain ⟨e, e1, e2⟩ := Q.oa k h0 h1
  have hc := Q.hc
  have f := Q.ff _ e1 (by omega) (.inl e2)
  have l := Q.fl _ e1 (by omega) (.inl e2)
  rw [sg_lo e2] at f l
  rw [e]; exact ⟨f, l⟩
theorem SQI.F2 {k : Int} (h0 : (a + m : Nat) ≤ k) (h1 : k < O.length) : rd F' (rd O' (k + (m' - m))) = rd F (rd O k) ∧ rd L' (rd O' (k + (m' - m))) = rd L (rd O k) := by
  obtain ⟨e, e1, e2⟩ := Q.ot k h0 h1
  have f := Q.ff _ (by omega) (by omega) (.inr e1)
  have l := Q.fl _ (by omega) (by omega) (.inr e1)
  rw [sg_hi (by omega)] at f l
  rw [e]; exact ⟨f, l⟩
theorem SQI.endA {k : Int} (h0 : 0 ≤ k) (h1 : k < a) (r : Nat) : runEnd F L O k r k ≤ a := by
  have hl := runEnd_lv (F := F) (L := L) (O := O) (k := k) r k (fun p a b => by omega)
  by_cases e : runEnd F L O k r k ≤ a
  · exact e
  · have e1 := hl a (by omega) (by omega)
    have e2 := hl (a - 1 : Nat) (by omega) (by omega)
    have h3 := Q.lc a (by omega) (by have := Q.m0; omega)
    rw [Q.la] at e2; omega
theorem SQI.endC {k : Int} (h0 : a ≤ k) (h1 : k < (a + m : Nat)) (r : Nat) : runEnd F L O k r k ≤ (a + m : Nat) := by
  have hl := runEnd_lv (F := F) (L := L) (O := O) (k := k) r k (fun p a b => by omega)
  by_cases e : runEnd F L O k r k ≤ (a + m : Nat)
  · exact e
  · have e1 := hl (a + m : Nat) (by omega) (by omega)
    have h3 := Q.lc k h0 h1
    rw [Q.ft, Q.lp] at e1; omega
theorem run_h {k : Int} (h0 : 0 ≤ k) (h1 : k < a) : ∀ (q : Nat) (j : Int), k ≤ j → j + q = a → (∀ p : Int, k ≤ p → p < j → rd L (rd O p) = rd L (rd O k)) → runEnd F' L' O' k (q + (m' + w)) j = runEnd F L O k (q + (m + w)) j
  | 0, j, hkj, hj, hl => by
    have ja : j = a := by simpa using hj
    have e2 := hl (a - 1 : Nat) (by omega) (by omega)
    rw [Q.la] at e2
    have h3 := Q.lc a (by omega) (by have := Q.m0; omega)
    have h3' := Q.lc' a (by omega) (by have := Q.m0'; omega)
    have hm := Q.m0
    have hm' := Q.m0'
    rw [show 0 + (m' + w) = (m' + w - 1) + 1 by omega, show 0 + (m + w) = (m + w - 1) + 1 by omega]
    simp only [runEnd]
    have hk := (Q.F1 h0 h1).2
    have hL := Q.Lh
    subst ja
    rw [if_neg (fun x => by have := x.1; omega), if_neg (fun x => by have := x.1; omega)]
  | q + 1, j, hkj, hj, hl => by
    push_cast at hj
    rw [show q + 1 + (m' + w) = (q + (m' + w)) + 1 by omega, show q + 1 + (m + w) = (q + (m + w)) + 1 by omega]
    simp only [runEnd]
    rw [(Q.F1 (k := j) (by omega) (by omega)).2, (Q.F1 h0 h1).2]
    have ec : (j = k ∨ rd F' (rd O' (j - 1)) ≠ 10) ↔ (j = k ∨ rd F (rd O (j - 1)) ≠ 10) := by
      by_cases e : j = k
      · simp only [e, true_or]
      · rw [(Q.F1 (k := j - 1) (by omega) (by omega)).1]
    by_cases g : rd L (rd O j) = rd L (rd O k) ∧ (j = k ∨ rd F (rd O (j - 1)) ≠ 10)
    · rw [if_pos g, if_pos ⟨g.1, ec.mpr g.2⟩]
      exact run_h h0 h1 q (j + 1) (by omega) (by omega) (fun p a b => by
        by_cases e : p = j
        · rw [e]; exact g.1
        · exact hl p a (by omega))
    · rw [if_neg g, if_neg (fun x => g ⟨x.1, ec.mp x.2⟩)]
theorem run_t {k : Int} (h0 : (a + m : Nat) ≤ k) (h1 : k < O.length) : ∀ (q : Nat) (j : Int), k ≤ j → j + q = O.length → runEnd F' L' O' (k + (m' - m)) q (j + (m' - m)) = runEnd F L O k q j + (m' - m)
  | 0, j, _, _ => rfl
  | q + 1, j, hkj, hj => by
    push_cast at hj
    simp only [runEnd]
    rw [(Q.F2 (k := j) (by omega) (by omega)).2, (Q.F2 h0 h1).2]
    have ec : (j + ((m' : Int) - m) = k + (m' - m) ∨ rd F' (rd O' (j + (m' - m) - 1)) ≠ 10) ↔ (j = k ∨ rd F (rd O (j - 1)) ≠ 10) := by
      by_cases e : j = k
      · simp only [e, true_or]
      · rw [show j + ((m' : Int) - m) - 1 = j - 1 + (m' - m) by omega, (Q.F2 (k := j - 1) (by omega) (by omega)).1]
        exact or_congr_left (by omega)
    by_cases g : rd L (rd O j) = rd L (rd O k) ∧ (j = k ∨ rd F (rd O (j - 1)) ≠ 10)
    · rw [if_pos g, if_pos ⟨g.1, ec.mpr g.2⟩, show j + ((m' : Int) - m) + 1 = j + 1 + (m' - m) by omega]
      exact run_t h0 h1 q (j + 1) (by omega) (by omega)
    · rw [if_neg g, if_neg (fun x => g ⟨x.1, ec.mp x.2⟩)]

theorem part_h {k j : Int} (h0 : 0 ≤ k) (hj : j ≤ a) : partI O' k j = partI O k j := by
  have := Q.ol
  have := Q.ol'
  unfold partI
  apply List.ext_getElem?
  intro t
  rw [List.getElem?_take, List.getElem?_take]
  split
  · rename_i ht
    rw [List.getElem?_drop, List.getElem?_drop]
    have e := (Q.oa ((k.toNat + t : Nat) : Int) (by omega) (by omega)).1
    rw [rd_at (by omega) (by omega), rd_at (by omega) (by omega)] at e
    rw [List.getElem?_eq_getElem (by omega), List.getElem?_eq_getElem (by omega)]
    simp only [Int.toNat_natCast] at e
    rw [e]
  · rfl
theorem part_t {k j : Int} (h0 : (a + m : Nat) ≤ k) (hk : k ≤ j) (hj : j ≤ O.length) : partI O' (k + (m' - m)) (j + (m' - m)) = (partI O k j).map (sg h (c' - c)) := by
  have := Q.ol
  have := Q.ol'
  unfold partI
  apply List.ext_getElem?
  intro t
  rw [List.getElem?_map, List.getElem?_take, List.getElem?_take]
  by_cases ht : t < j.toNat - k.toNat
  · rw [if_pos ht, if_pos (by omega), List.getElem?_drop, List.getElem?_drop]
    obtain ⟨e, e1, e2⟩ := Q.ot ((k.toNat + t : Nat) : Int) (by omega) (by omega)
    rw [rd_at (by omega) (by omega), rd_at (by omega) (by omega)] at e
    rw [rd_at (by omega) (by omega)] at e1
    rw [List.getElem?_eq_getElem (by omega), List.getElem?_eq_getElem (by omega)]
    simp only [Int.toNat_natCast] at e e1
    simp only [Option.map_some]
    rw [sg_hi (by omega), ← e]
    congr 2; omega
  · rw [if_neg ht, if_neg (by omega)]; rfl
theorem SQI.O2 {k : Int} (h0 : 0 ≤ k) (h1 : k < a) : rd O' k = sg h (c' - c) (rd O k) := by
  obtain ⟨e, e1, e2⟩ := Q.oa k h0 h1
  rw [e, sg_lo e2]
theorem SQI.O3 {k : Int} (h0 : (a + m : Nat) ≤ k) (h1 : k < O.length) : rd O' (k + (m' - m)) = sg h (c' - c) (rd O k) := by
  obtain ⟨e, e1, e2⟩ := Q.ot k h0 h1
  rw [e, sg_hi (by omega)]
theorem SQI.ouA {k : Int} (h0 : 0 ≤ k) (h1 : k < a) : 0 ≤ rd O k ∧ rd O k < F.length ∧ Ou h c (rd O k) := by
  obtain ⟨e, e1, e2⟩ := Q.oa k h0 h1
  have := Q.hc
  exact ⟨e1, by omega, .inl e2⟩
theorem SQI.ouT {k : Int} (h0 : (a + m : Nat) ≤ k) (h1 : k < O.length) : 0 ≤ rd O k ∧ rd O k < F.length ∧ Ou h c (rd O k) := by
  obtain ⟨e, e1, e2⟩ := Q.ot k h0 h1
  exact ⟨by omega, e2, .inr e1⟩
end
end Go.Proofs.Ythkklpegjcnjoaa

namespace Go.Proofs.Ythkklpegjcnjoaa
open Go.Ab
set_option linter.unusedVariables false
set_option linter.unusedSimpArgs false

/-! ### An isolate's contents: sequences in three parts -/

structure GR (n : Int) (h c c' : Nat) (φ : Nat → Nat) (G G' : Int → Option Nat) : Prop where
  r : ∀ x : Int, 0 ≤ x → x < n → Ou h c x → G' (sg h (c' - c) x) = (G x).map φ
  n : ∀ x : Int, Cn h c x → G x = none
  n' : ∀ x : Int, Cn h c' x → G' x = none
def idx (n1 nc nc' i : Nat) : Nat := if i < n1 then i else i - nc + nc'

theorem seqs_c {F L M O : List Int} {b : Int} {h c a m w : Nat} (ol : O.length = a + m + w) (hE : ∀ (k : Int) (r : Nat), a ≤ k → k < (a + m : Nat) → runEnd F L O k r k ≤ (a + m : Nat)) (hO : ∀ k : Int, a ≤ k → k < (a + m : Nat) → Cn h c (rd O k)) (hF : ∀ p : Int, Cn h c p → ¬ isOpener (rd F p))
    {E1 : List SE} {G : Int → Option Nat} (hG : ∀ x : Int, Cn h c x → G x = none) : ∀ (f : Nat) (k : Int) (Ec : List SE), a ≤ k → k ≤ (a + m : Nat) → O.length + 1 ≤ f + k → (∀ e ∈ Ec, ∀ p ∈ e.A, Cn h c p) →
      ∃ (f2 : Nat) (Ec2 : List SE), O.length + 1 ≤ f2 + (a + m) ∧ (∀ e ∈ Ec2, ∀ p ∈ e.A, Cn h c p) ∧ seqsM F L M b O f k (E1 ++ Ec) G = seqsM F L M b O f2 (a + m : Nat) (E1 ++ Ec2) G
  | 0, k, Ec, hk, hk2, hf, _ => by omega
  | f + 1, k, Ec, hk, hk2, hf, hEc => by
    by_cases e : k = (a + m : Nat)
    · exact ⟨f + 1, Ec, by omega, hEc, by rw [e]⟩
    have hlt : k < O.length := by omega
    have hgt := runEnd_gt (F := F) (L := L) (O := O) (k := k) (r := O.length - k.toNat) (by omega)
    have hle := hE k (O.length - k.toNat) hk (by omega)
    generalize hj : runEnd F L O k (O.length - k.toNat) k = j at hgt hle
    have hop : ∀ i, openG F M O j i G = G := fun i => by
      unfold openG
      rw [if_neg (fun x => hF _ (hO (j - 1) (by omega) (by omega)) x.1)]
    have hst : stepE F L b O k j (E1 ++ Ec).length ((E1 ++ Ec) ++ [newE F L b O k]) = E1 ++ (Ec ++ [growE F L b O k j (newE F L b O k)]) := by
      unfold stepE
      rw [List.getD_eq_getElem?_getD, List.getElem?_append_right (Nat.le_refl _), Nat.sub_self, List.set_append_right _ _ (Nat.le_refl _), Nat.sub_self, List.append_assoc]
      rfl
    obtain ⟨f2, Ec2, g1, g2, g3⟩ := seqs_c ol hE hO hF hG f j (Ec ++ [growE F L b O k j (newE F L b O k)]) (by omega) hle (by omega) (fun e he p hp => by
      rcases List.mem_append.mp he with he | he
      · exact hEc e he p hp
      · rw [List.mem_singleton.mp he] at hp
        simp only [growE, newE, List.nil_append] at hp
        obtain ⟨q, q1, q2, rfl⟩ := partI_mem (by omega) (by omega) hp
        exact hO q (by omega) (by omega))
    refine ⟨f2, Ec2, g1, g2, ?_⟩
    rw [← g3]
    simp only [seqsM]
    rw [if_pos hlt, hj, hG _ (hO k hk (by omega))]
    simp only
    rw [hop, hst]

section
variable {F L M O F' L' M' O' : List Int} {h c c' a m m' w : Nat} (Q : SQI F L M O F' L' M' O' h c c' a m m' w) {b : Int}
include Q
theorem SQI.endC' {k : Int} (h0 : a ≤ k) (h1 : k < (a + m' : Nat)) (r : Nat) : runEnd F' L' O' k r k ≤ (a + m' : Nat) := by
  have hl := runEnd_lv (F := F') (L := L') (O := O') (k := k) r k (fun p a b => by omega)
  by_cases e : runEnd F' L' O' k r k ≤ (a + m' : Nat)
  · exact e
  · have e1 := hl (a + m' : Nat) (by omega) (by omega)
    have h3 := Q.lc' k h0 h1
    have h4 := (Q.F2 (k := (a + m : Nat)) (by omega) (by have := Q.ol; have := Q.w0; omega)).2
    rw [show ((a + m : Nat) : Int) + ((m' : Int) - m) = (a + m' : Nat) by omega, Q.ft, Q.lp] at h4
    have := Q.Lh
    omega
theorem GR.opn {φ : Nat → Nat} {G G' : Int → Option Nat} (R : GR F.length h c c' φ G G') {j j' : Int} {i : Nat} (hp : 0 ≤ rd O (j - 1) ∧ rd O (j - 1) < F.length ∧ Ou h c (rd O (j - 1))) (hj : rd O' (j' - 1) = sg h (c' - c) (rd O (j - 1))) :
    GR F.length h c c' φ (openG F M O j i G) (openG F' M' O' j' (φ i) G') := by
  unfold openG
  rw [hj, Q.ff _ hp.1 hp.2.1 hp.2.2, Q.fm _ hp.1 hp.2.1 hp.2.2]
  by_cases g : isOpener (rd F (rd O (j - 1))) ∧ 0 ≤ rd M (rd O (j - 1))
  · obtain ⟨m1, m2⟩ : rd M (rd O (j - 1)) < F.length ∧ Ou h c (rd M (rd O (j - 1))) := by
      rcases Q.mr _ hp.1 hp.2.1 hp.2.2 g.1 with e | e
      · omega
      · exact e
    have hnn := sg_nn (s := (c' : Int) - c) (by omega) m2 g.2
    rw [if_pos g, if_pos ⟨g.1, hnn⟩]
    refine { r := fun x x0 x1 xo => ?_, n := fun x hx => ?_, n' := fun x hx => ?_ }
    · by_cases e : x = rd M (rd O (j - 1))
      · rw [if_pos e, if_pos (by rw [e])]; rfl
      · rw [if_neg e, if_neg (fun y => e ((sg_iff (by omega) xo m2).mp y))]; exact R.r x x0 x1 xo
    · unfold Cn at hx; unfold Ou at m2
      rw [if_neg (by omega)]; exact R.n x hx
    · have : x ≠ sg h (c' - c) (rd M (rd O (j - 1))) := by
        unfold Cn at hx; unfold Ou at m2; unfold sg; split <;> omega
      rw [if_neg this]; exact R.n' x hx
  · rw [if_neg g, if_neg (fun x => g ⟨x.1, by
      have := x.2
      by_cases e : rd M (rd O (j - 1)) < 0
      · rw [sg_neg e] at this; exact this
      · omega⟩)]
    exact R

theorem after_h {j : Int} (h0 : 0 < j) (h1 : j ≤ a) : afterM F' L' b O' j = afterM F L b O j := by
  have hol := Q.ol
  have hol' := Q.ol'
  have hm := Q.m0
  have hm' := Q.m0'
  have hl := Q.lri
  have ha := Q.la
  unfold afterM
  rw [(Q.F1 (k := j - 1) (by omega) (by omega)).1]
  by_cases e : j = a
  · have : isOpener (rd F (rd O (j - 1))) := by rw [show j - 1 = (a - 1 : Nat) by omega, ha, hl]; exact .inl rfl
    rw [if_neg (fun x => x.2.1 this), if_neg (fun x => x.2.1 this)]
  · rw [(Q.F1 (k := j) (by omega) (by omega)).2]
    by_cases g : ¬isOpener (rd F (rd O (j - 1))) ∧ rd F (rd O (j - 1)) ≠ 10
    · rw [if_pos ⟨by omega, g⟩, if_pos ⟨by omega, g⟩]
    · rw [if_neg (fun x => g x.2), if_neg (fun x => g x.2)]
theorem after_t {j : Int} (h0 : (a + m : Nat) < j) (h1 : j ≤ O.length) : afterM F' L' b O' (j + (m' - m)) = afterM F L b O j := by
  have hol := Q.ol
  have hol' := Q.ol'
  unfold afterM
  rw [show j + ((m' : Int) - m) - 1 = j - 1 + (m' - m) by omega, (Q.F2 (k := j - 1) (by omega) (by omega)).1]
  by_cases g : j < O.length ∧ ¬isOpener (rd F (rd O (j - 1))) ∧ rd F (rd O (j - 1)) ≠ 10
  · rw [if_pos g, if_pos ⟨by omega, g.2⟩, (Q.F2 (k := j) (by omega) (by omega)).2]
  · rw [if_neg g, if_neg (fun x => g ⟨by omega, x.2⟩)]
theorem grow_h {k j : Int} (h0 : 0 ≤ k) (hk : k < j) (h1 : j ≤ a) (e : SE) : growE F' L' b O' k j e = growE F L b O k j e := by
  unfold growE; rw [part_h Q h0 h1, after_h Q (by omega) h1]
theorem grow_t {k j : Int} (h0 : (a + m : Nat) ≤ k) (hk : k < j) (h1 : j ≤ O.length) (e : SE) : growE F' L' b O' (k + (m' - m)) (j + (m' - m)) (sgS h (c' - c) e) = sgS h (c' - c) (growE F L b O k j e) := by
  unfold growE sgS; rw [part_t Q h0 (by omega) h1, after_t Q (by omega) h1]; simp
theorem new_h {k : Int} (h0 : 0 ≤ k) (h1 : k < a) : newE F' L' b O' k = newE F L b O k := by
  unfold newE beforeM
  rw [(Q.F1 h0 h1).2]
  by_cases e : 0 < k
  · rw [(Q.F1 (k := k - 1) (by omega) (by omega)).1, (Q.F1 (k := k - 1) (by omega) (by omega)).2]
  · rw [if_neg (fun x => e x.1), if_neg (fun x => e x.1)]
theorem new_t {k : Int} (h0 : (a + m : Nat) < k) (h1 : k < O.length) : newE F' L' b O' (k + (m' - m)) = sgS h (c' - c) (newE F L b O k) := by
  unfold newE beforeM sgS
  rw [(Q.F2 (by omega) h1).2, show k + ((m' : Int) - m) - 1 = k - 1 + (m' - m) by omega, (Q.F2 (k := k - 1) (by omega) (by omega)).1, (Q.F2 (k := k - 1) (by omega) (by omega)).2]
  have e : (0 < k + ((m' : Int) - m)) ↔ 0 < k := by omega
  simp only [e, List.map_nil]

omit Q in
theorem mem_step {k j : Int} {i : Nat} {E : List SE} (hi : i < E.length) {e : SE} (he : e ∈ stepE F L b O k j i E) : e ∈ E ∨ ∃ e0 ∈ E, e = growE F L b O k j e0 := by
  unfold stepE at he
  rcases List.mem_or_eq_of_mem_set he with he | he
  · exact .inl he
  · rw [List.getD_eq_getElem?_getD, List.getElem?_eq_getElem hi] at he
    exact .inr ⟨E[i], List.getElem_mem _, he⟩

theorem seqs_h : ∀ (f f' : Nat) (k : Int) (E : List SE) (G G' : Int → Option Nat), 0 ≤ k → k ≤ a → O.length + 1 ≤ f + k → O'.length + 1 ≤ f' + k → GR F.length h c c' id G G' → (∀ e ∈ E, ∀ p ∈ e.A, 0 ≤ p ∧ p < h) → (∀ x i, G x = some i → i < E.length) → (k = a → ∃ i, G (h + c : Nat) = some i) →
    ∃ (f2 f2' : Nat) (E2 : List SE) (G2 G2' : Int → Option Nat), O.length + 1 ≤ f2 + a ∧ O'.length + 1 ≤ f2' + a ∧ GR F.length h c c' id G2 G2' ∧ (∀ e ∈ E2, ∀ p ∈ e.A, 0 ≤ p ∧ p < h) ∧ (∀ x i, G2 x = some i → i < E2.length) ∧ (∃ i, G2 (h + c : Nat) = some i) ∧
      seqsM F L M b O f k E G = seqsM F L M b O f2 a E2 G2 ∧ seqsM F' L' M' b O' f' k E G' = seqsM F' L' M' b O' f2' a E2 G2'
  | 0, f', k, E, G, G', h0, h1, hf, hf', R, hE, hG, hz => by have := Q.ol; omega
  | f + 1, 0, k, E, G, G', h0, h1, hf, hf', R, hE, hG, hz => by have := Q.ol'; omega
  | f + 1, f' + 1, k, E, G, G', h0, h1, hf, hf', R, hE, hG, hz => by
    have hol := Q.ol
    have hol' := Q.ol'
    by_cases e : k = a
    · subst e
      exact ⟨f + 1, f' + 1, E, G, G', by omega, by omega, R, hE, hG, hz rfl, rfl, rfl⟩
    have hka : k < a := by omega
    have hrun : runEnd F' L' O' k (O'.length - k.toNat) k = runEnd F L O k (O.length - k.toNat) k := by
      have := run_h Q h0 hka (a - k.toNat) k (Int.le_refl _) (by omega) (fun p x y => by omega)
      rw [show O'.length - k.toNat = a - k.toNat + (m' + w) by omega, show O.length - k.toNat = a - k.toNat + (m + w) by omega]; exact this
    have hgt := runEnd_gt (F := F) (L := L) (O := O) (k := k) (r := O.length - k.toNat) (by omega)
    have hle := Q.endA h0 hka (O.length - k.toNat)
    generalize hjd : runEnd F L O k (O.length - k.toNat) k = j at hrun hgt hle
    have hop := fun i => GR.opn Q R (j := j) (j' := j) (i := i) (Q.ouA (k := j - 1) (by omega) (by omega)) (Q.O2 (by omega) (by omega))
    have hou := Q.ouA h0 hka
    have hGk : G' (rd O' k) = G (rd O k) := by rw [Q.O2 h0 hka, R.r _ hou.1 hou.2.1 hou.2.2, Option.map_id]; rfl
    have hstep : ∀ i (E : List SE), stepE F' L' b O' k j i E = stepE F L b O k j i E := fun i E => by unfold stepE; rw [grow_h Q h0 hgt hle]
    have hbd : ∀ i (E : List SE), i < E.length → (∀ e ∈ E, ∀ p ∈ e.A, 0 ≤ p ∧ p < h) → ∀ e ∈ stepE F L b O k j i E, ∀ p ∈ e.A, 0 ≤ p ∧ p < h := fun i E hi hE e he p hp => by
      rcases mem_step hi he with he | ⟨e0, he0, rfl⟩
      · exact hE e he p hp
      · rcases List.mem_append.mp hp with hp | hp
        · exact hE e0 he0 p hp
        · obtain ⟨q, q1, q2, rfl⟩ := partI_mem h0 (by omega) hp
          exact (Q.oa q (by omega) (by omega)).2
    have hzz : ∀ i, j = a → ∃ i', openG F M O j i G (h + c : Nat) = some i' := fun i ej => by
      have e1 : rd O (j - 1) = (h - 1 : Nat) := by rw [ej, show (a : Int) - 1 = (a - 1 : Nat) by have := Q.a0; omega]; exact Q.la
      unfold openG
      rw [e1, Q.lri, Q.mo, if_pos ⟨.inl rfl, by omega⟩]
      exact ⟨i, if_pos rfl⟩
    have hGG : ∀ i n, i < n → (∀ x i, G x = some i → i < n) → ∀ x i', openG F M O j i G x = some i' → i' < n := fun i n hi hn x i' hx => by
      unfold openG at hx
      split at hx
      · dsimp only at hx
        split at hx
        · cases hx; exact hi
        · exact hn x i' hx
      · exact hn x i' hx
    simp only [seqsM]
    rw [if_pos (by omega), if_pos (by omega), hrun, hjd, hGk]
    cases hg : G (rd O k) with
    | some i =>
      simp only
      have hi := hG _ _ hg
      rw [hstep]
      exact seqs_h f f' j _ _ _ (by omega) hle (by omega) (by omega) (hop i) (hbd i E hi hE) (by rw [show (stepE F L b O k j i E).length = E.length by unfold stepE; rw [List.length_set]]; exact hGG i _ hi hG) (hzz i)
    | none =>
      simp only
      rw [hstep, new_h Q h0 hka]
      have hi : E.length < (E ++ [newE F L b O k]).length := by simp
      exact seqs_h f f' j _ _ _ (by omega) hle (by omega) (by omega) (hop E.length) (hbd _ _ hi (fun e he p hp => by
        rcases List.mem_append.mp he with he | he
        · exact hE e he p hp
        · rw [List.mem_singleton.mp he] at hp; simp [newE] at hp)) (by rw [show (stepE F L b O k j E.length (E ++ [newE F L b O k])).length = (E ++ [newE F L b O k]).length by unfold stepE; rw [List.length_set]]; exact hGG _ _ hi (fun x i hx => by have := hG x i hx; omega)) (hzz _)

omit Q in
theorem step_rel {s : Int} {g g' : SE → SE} (hg : ∀ e, g' (sgS h s e) = sgS h s (g e)) {E1 Ec Ec' E2 : List SE} {i : Nat} (hi : i < E1.length ∨ (E1.length + Ec.length ≤ i ∧ i < E1.length + Ec.length + E2.length)) :
    ∃ X1 X2 : List SE, X1.length = E1.length ∧ X2.length = E2.length ∧ (E1 ++ (Ec ++ E2)).set i (g ((E1 ++ (Ec ++ E2)).getD i default)) = X1 ++ (Ec ++ X2) ∧
      (E1.map (sgS h s) ++ (Ec' ++ E2.map (sgS h s))).set (idx E1.length Ec.length Ec'.length i) (g' ((E1.map (sgS h s) ++ (Ec' ++ E2.map (sgS h s))).getD (idx E1.length Ec.length Ec'.length i) default)) = X1.map (sgS h s) ++ (Ec' ++ X2.map (sgS h s)) ∧ (∀ e ∈ X1 ++ X2, e ∈ E1 ++ E2 ∨ ∃ e0 ∈ E1 ++ E2, e = g e0) := by
  rcases hi with hi | ⟨hi, hi2⟩
  · refine ⟨E1.set i (g E1[i]), E2, by simp, rfl, ?_, ?_, fun e he => ?_⟩
    · rw [List.getD_eq_getElem?_getD, List.getElem?_append_left hi, List.getElem?_eq_getElem hi, List.set_append_left _ _ hi]; rfl
    · unfold idx
      rw [if_pos hi, List.getD_eq_getElem?_getD, List.getElem?_append_left (by simpa using hi), List.getElem?_map, List.getElem?_eq_getElem hi, List.set_append_left _ _ (by simpa using hi), Option.map_some, Option.getD_some, hg, List.map_set]
    · rcases List.mem_append.mp he with he | he
      · rcases List.mem_or_eq_of_mem_set he with he | he
        · exact .inl (List.mem_append_left _ he)
        · exact .inr ⟨E1[i], List.mem_append_left _ (List.getElem_mem _), he⟩
      · exact .inl (List.mem_append_right _ he)
  · obtain ⟨q, rfl⟩ : ∃ q, i = E1.length + (Ec.length + q) := ⟨i - E1.length - Ec.length, by omega⟩
    have hq : q < E2.length := by omega
    refine ⟨E1, E2.set q (g E2[q]), rfl, by simp, ?_, ?_, fun e he => ?_⟩
    · rw [List.getD_eq_getElem?_getD, List.getElem?_append_right (by omega), Nat.add_sub_cancel_left, List.getElem?_append_right (by omega), Nat.add_sub_cancel_left, List.getElem?_eq_getElem hq, List.set_append_right _ _ (by omega), Nat.add_sub_cancel_left, List.set_append_right _ _ (by omega), Nat.add_sub_cancel_left]; rfl
    · have e1 : idx E1.length Ec.length Ec'.length (E1.length + (Ec.length + q)) = (E1.map (sgS h s)).length + (Ec'.length + q) := by
        unfold idx; rw [if_neg (by omega), List.length_map]; omega
      rw [e1, List.getD_eq_getElem?_getD, List.getElem?_append_right (by omega), Nat.add_sub_cancel_left, List.getElem?_append_right (by omega), Nat.add_sub_cancel_left, List.getElem?_map, List.getElem?_eq_getElem hq, List.set_append_right _ _ (by omega), Nat.add_sub_cancel_left, List.set_append_right _ _ (by omega), Nat.add_sub_cancel_left, Option.map_some, Option.getD_some, hg, List.map_set]
    · rcases List.mem_append.mp he with he | he
      · exact .inl (List.mem_append_left _ he)
      · rcases List.mem_or_eq_of_mem_set he with he | he
        · exact .inl (List.mem_append_right _ he)
        · exact .inr ⟨E2[q], List.mem_append_right _ (List.getElem_mem _), he⟩

theorem seqs_t {Ec Ec' : List SE} : ∀ (f f' : Nat) (k : Int) (E1 E2 : List SE) (G G' : Int → Option Nat), (a + m : Nat) ≤ k → k ≤ O.length → O.length + 1 ≤ f + k → O'.length + 1 ≤ f' + (k + (m' - m)) → GR F.length h c c' (idx E1.length Ec.length Ec'.length) G G' →
    (∀ x i, G x = some i → i < E1.length ∨ (E1.length + Ec.length ≤ i ∧ i < E1.length + Ec.length + E2.length)) → (k = (a + m : Nat) → ∃ i, G (h + c : Nat) = some i) → (∀ e ∈ E1 ++ E2, ∀ p ∈ e.A, 0 ≤ p ∧ p < F.length ∧ Ou h c p) →
    ∃ X1 X2 : List SE, (∀ e ∈ X1 ++ X2, ∀ p ∈ e.A, 0 ≤ p ∧ p < F.length ∧ Ou h c p) ∧ seqsM F L M b O f k (E1 ++ (Ec ++ E2)) G = X1 ++ (Ec ++ X2) ∧ seqsM F' L' M' b O' f' (k + (m' - m)) (E1.map (sgS h (c' - c)) ++ (Ec' ++ E2.map (sgS h (c' - c)))) G' = X1.map (sgS h (c' - c)) ++ (Ec' ++ X2.map (sgS h (c' - c)))
  | 0, f', k, E1, E2, G, G', h0, h1, hf, hf', R, hG, hz, hE => by omega
  | f + 1, 0, k, E1, E2, G, G', h0, h1, hf, hf', R, hG, hz, hE => by have := Q.ol; have := Q.ol'; omega
  | f + 1, f' + 1, k, E1, E2, G, G', h0, h1, hf, hf', R, hG, hz, hE => by
    have hol := Q.ol
    have hol' := Q.ol'
    by_cases e : k = O.length
    · refine ⟨E1, E2, hE, ?_, ?_⟩
      · simp only [seqsM]; rw [if_neg (by omega)]
      · simp only [seqsM]; rw [if_neg (by omega)]
    have hka : k < O.length := by omega
    have hrun : runEnd F' L' O' (k + (m' - m)) (O'.length - (k + ((m' : Int) - m)).toNat) (k + (m' - m)) = runEnd F L O k (O.length - k.toNat) k + (m' - m) := by
      have := run_t Q h0 hka (O.length - k.toNat) k (Int.le_refl _) (by omega)
      rw [← this]; congr 1; omega
    have hgt := runEnd_gt (F := F) (L := L) (O := O) (k := k) (r := O.length - k.toNat) (by omega)
    have hle := (runEnd_ge (F := F) (L := L) (O := O) (k := k) (O.length - k.toNat) k).2
    generalize hjd : runEnd F L O k (O.length - k.toNat) k = j at hrun hgt hle
    have hjl : j ≤ O.length := by omega
    have hop := fun i => GR.opn Q R (j := j) (j' := j + (m' - m)) (i := i) (Q.ouT (k := j - 1) (by omega) (by omega)) (by rw [show j + ((m' : Int) - m) - 1 = j - 1 + (m' - m) by omega]; exact Q.O3 (by omega) (by omega))
    have hou := Q.ouT h0 hka
    have hGk : G' (rd O' (k + (m' - m))) = (G (rd O k)).map (idx E1.length Ec.length Ec'.length) := by rw [Q.O3 h0 hka]; exact R.r _ hou.1 hou.2.1 hou.2.2
    have hgr := fun e => grow_t Q (b := b) h0 hgt hjl e
    have hGG : ∀ (i : Nat) (P : Nat → Prop), P i → (∀ x i, G x = some i → P i) → ∀ x i', openG F M O j i G x = some i' → P i' := fun i P hi hn x i' hx => by
      unfold openG at hx
      split at hx
      · dsimp only at hx
        split at hx
        · cases hx; exact hi
        · exact hn x i' hx
      · exact hn x i' hx
    have hbd : ∀ (E X : List SE), (∀ e ∈ E, ∀ p ∈ e.A, 0 ≤ p ∧ p < F.length ∧ Ou h c p) → (∀ e ∈ X, e ∈ E ∨ ∃ e0 ∈ E, e = growE F L b O k j e0) → ∀ e ∈ X, ∀ p ∈ e.A, 0 ≤ p ∧ p < F.length ∧ Ou h c p := fun E X hE hX e he p hp => by
      rcases hX e he with he | ⟨e0, he0, rfl⟩
      · exact hE e he p hp
      · rcases List.mem_append.mp hp with hp | hp
        · exact hE e0 he0 p hp
        · obtain ⟨q, q1, q2, rfl⟩ := partI_mem (by omega) hjl hp
          exact Q.ouT (by omega) (by omega)
    simp only [seqsM]
    rw [if_pos hka, if_pos (by omega), hrun, hjd, hGk]
    cases hg : G (rd O k) with
    | some i =>
      simp only [Option.map_some]
      have hi := hG _ _ hg
      obtain ⟨X1, X2, l1, l2, s1, s2, s3⟩ := step_rel (s := (c' : Int) - c) (Ec' := Ec') hgr hi
      have t1 : stepE F L b O k j i (E1 ++ (Ec ++ E2)) = X1 ++ (Ec ++ X2) := s1
      have t2 : stepE F' L' b O' (k + (m' - m)) (j + (m' - m)) (idx E1.length Ec.length Ec'.length i) (E1.map (sgS h (c' - c)) ++ (Ec' ++ E2.map (sgS h (c' - c)))) = X1.map (sgS h (c' - c)) ++ (Ec' ++ X2.map (sgS h (c' - c))) := s2
      rw [t1, t2]
      refine seqs_t f f' j X1 X2 _ _ (by omega) hjl (by omega) (by omega) (by rw [l1]; exact hop i) (fun x i' hx => ?_) (fun ej => by omega) (hbd _ _ hE s3)
      rw [l1, l2]
      exact hGG i _ hi hG x i' hx
    | none =>
      simp only [Option.map_none]
      have hk2 : (a + m : Nat) < k := by
        by_cases e2 : k = (a + m : Nat)
        · obtain ⟨i, hi⟩ := hz e2
          rw [e2, Q.ft, hi] at hg; cases hg
        · omega
      have el : (E1 ++ (Ec ++ E2)).length = E1.length + Ec.length + E2.length := by simp; omega
      have el' : (E1.map (sgS h ((c' : Int) - c)) ++ (Ec' ++ E2.map (sgS h ((c' : Int) - c)))).length = idx E1.length Ec.length Ec'.length (E1.length + Ec.length + E2.length) := by
        unfold idx; rw [if_neg (by omega)]; simp; omega
      have hi : E1.length + Ec.length + E2.length < E1.length ∨ (E1.length + Ec.length ≤ E1.length + Ec.length + E2.length ∧ E1.length + Ec.length + E2.length < E1.length + Ec.length + (E2 ++ [newE F L b O k]).length) := .inr ⟨by omega, by simp⟩
      obtain ⟨X1, X2, l1, l2, s1, s2, s3⟩ := step_rel (s := (c' : Int) - c) (Ec' := Ec') hgr hi
      rw [el, el', new_t Q hk2 hka]
      have t1 : stepE F L b O k j (E1.length + Ec.length + E2.length) (E1 ++ (Ec ++ E2) ++ [newE F L b O k]) = X1 ++ (Ec ++ X2) := by
        rw [← s1]; unfold stepE; simp only [List.append_assoc]
      have t2 : stepE F' L' b O' (k + (m' - m)) (j + (m' - m)) (idx E1.length Ec.length Ec'.length (E1.length + Ec.length + E2.length)) (E1.map (sgS h (c' - c)) ++ (Ec' ++ E2.map (sgS h (c' - c))) ++ [sgS h (c' - c) (newE F L b O k)]) = X1.map (sgS h (c' - c)) ++ (Ec' ++ X2.map (sgS h (c' - c))) := by
        rw [← s2]; unfold stepE; simp only [List.append_assoc, List.map_append, List.map_cons, List.map_nil]
      rw [t1, t2]
      refine seqs_t f f' j X1 X2 _ _ (by omega) hjl (by omega) (by omega) (by rw [l1]; exact hop _) (fun x i' hx => ?_) (fun ej => by omega) (hbd _ _ (fun e he p hp => ?_) s3)
      rotate_left
      · rw [← List.append_assoc] at he
        rcases List.mem_append.mp he with he | he
        · exact hE e he p hp
        · rw [List.mem_singleton.mp he] at hp; simp [newE] at hp
      rw [l1, l2]
      refine hGG _ (fun i' => i' < E1.length ∨ (E1.length + Ec.length ≤ i' ∧ i' < E1.length + Ec.length + (E2 ++ [newE F L b O k]).length)) hi (fun x i hx => ?_) x i' hx
      have := hG x i hx
      rw [List.length_append]; omega
end
end Go.Proofs.Ythkklpegjcnjoaa

namespace Go.Proofs.Ythkklpegjcnjoaa
open Go.Ab
set_option linter.unusedVariables false
set_option linter.unusedSimpArgs false

/-! ### An isolate's contents: all sequences -/

theorem seqs_known (F : List Int) {b : Int} (hb : 0 ≤ b ∧ b ≤ 1) : ((sequencesM F (explM F b).1 (matchesM F) b).flatMap SE.A).Nodup ∧ ∀ p, p ∈ (sequencesM F (explM F b).1 (matchesM F) b).flatMap SE.A ↔ 0 ≤ p ∧ p < F.length ∧ ¬ isRemoved (rd F p) := by
  have hlen := (expl_len F b).1
  have hI : LinkI (pureD F (matchesM F) b) 0 ⟨[(b, -1, false)], 0, 0, 0⟩ (List.replicate F.length 0) [] (List.replicate F.length 0) :=
    { ne := by simp, op := Int.le_refl _, is := rfl, lv := fun e he => (by rw [List.mem_singleton.mp he]; dsimp only; omega), og := rfl, pl := fun o ho => (by cases ho), bd := fun j => (by rw [rep_zero]; omega), lk := fun o a b => (by omega) }
  obtain ⟨x', Og', hL⟩ := expM_link (D := pureD F (matchesM F) b) hb F.length 0 ⟨[(b, -1, false)], 0, 0, 0⟩ (List.replicate F.length 0) F [] (List.replicate F.length 0) hI (Int.le_refl _) (by simp) (by simp)
  have hlk : ∀ o : Int, 0 ≤ o → o < F.length → isOpener (rd F o) → rd (matchesM F) o < 0 ∨ rd (explM F b).1 (rd (matchesM F) o) = rd (explM F b).1 o := fun o a c op => by
    rcases hL.lk o a (by omega) op with h | h
    · exact .inl h
    · exact .inr h.2.2
  obtain ⟨hOn, hOr⟩ := orderM_ok (F := F) F.length 0 [] (by simp) (fun x h => by cases h) (Int.le_refl _)
  have hS0 : SeqJ F (explM F b).1 (matchesM F) (orderM F F.length 0 []) b 0 [] (fun _ => none) := { i := { lv := fun e he => (by cases he), pm := (by simp), g := fun x i h => (by cases h) }, en := fun e he => (by cases he), ls := .inl rfl }
  obtain ⟨G', hG⟩ := seqsM_fin (fun x h => by have := hOr x h; omega) hlk ((orderM F F.length 0 []).length + 1) 0 [] _ hS0 (Int.le_refl _) (by omega) (by omega)
  have pm := hG.i.pm
  rw [show ((orderM F F.length 0 []).length : Int).toNat = (orderM F F.length 0 []).length by omega, List.take_length] at pm
  refine ⟨pm.nodup_iff.mpr hOn, fun p => ?_⟩
  have : p ∈ (sequencesM F (explM F b).1 (matchesM F) b).flatMap SE.A ↔ p ∈ orderM F F.length 0 [] := pm.mem_iff
  rw [this, orderM_mem]
  constructor
  · rintro (h | h)
    · cases h
    · exact ⟨h.1, by omega, h.2.2⟩
  · intro h
    exact .inr ⟨h.1, by omega, h.2.2⟩

theorem rd_three_b {A B C : List Int} {k : Int} (h0 : A.length ≤ k) (h1 : k < (A.length + B.length : Nat)) : rd (A ++ (B ++ C)) k = rd B (k - A.length) := by
  have := rd_appr (A := A) (B := B ++ C) (i := k - A.length) (by omega)
  rw [show k - (A.length : Int) + A.length = k by omega] at this
  rw [this, rd_appl (by omega) (by omega)]
theorem rd_three_c {A B C : List Int} {k : Int} (h0 : (A.length + B.length : Nat) ≤ k) : rd (A ++ (B ++ C)) k = rd C (k - (A.length + B.length : Nat)) := by
  have := rd_appr (A := A) (B := B ++ C) (i := k - A.length) (by omega)
  rw [show k - (A.length : Int) + A.length = k by omega] at this
  rw [this]
  have := rd_appr (A := B) (B := C) (i := k - A.length - B.length) (by omega)
  rw [show k - (A.length : Int) - B.length + B.length = k - A.length by omega] at this
  rw [this]; congr 1; omega

section
variable {F F' : List Int} {h c c' t : Nat}
theorem order_parts (I : Iso F F' h c c' t) : orderM F F.length 0 [] = orderM F h 0 [] ++ (orderM F c h [] ++ orderM F t (h + c : Nat) []) := by
  rw [show F.length = h + (c + t) by have := I.len; omega, orderM_add, orderM_add, orderM_pre F t, orderM_pre F c, Int.zero_add, show (h : Int) + c = (h + c : Nat) by omega, List.append_assoc]

theorem seq_iso {b : Int} (I : Iso F F' h c c' t) (hb : 0 ≤ b ∧ b ≤ 1) (hd : dp F (h - 1) ≤ 60) :
    ∃ E1 Ec Ec' E2 : List SE, sequencesM F (explM F b).1 (matchesM F) b = E1 ++ (Ec ++ E2) ∧ sequencesM F' (explM F' b).1 (matchesM F') b = E1.map (sgS h (c' - c)) ++ (Ec' ++ E2.map (sgS h (c' - c))) ∧ (∀ e ∈ Ec, ∀ p ∈ e.A, Cn h c p) ∧ (∀ e ∈ E1 ++ E2, ∀ p ∈ e.A, 0 ≤ p ∧ p < F.length ∧ Ou h c p) := by
  obtain ⟨xo, xc, xc', xp⟩ := expl_iso I hb hd
  have hl := I.len
  have hl' := I.len'
  have hh := I.h0
  have ht := I.t0
  have oF := order_parts I
  have oF' := order_parts I.two
  have eh : orderM F' h 0 [] = orderM F h 0 [] := by
    have := orderM_rel (F := F) (F' := F') (s := 0) (P := []) h 0 [] (fun j a d => by rw [Int.add_zero]; exact I.hd j a (by omega))
    simp only [List.map_nil, List.append_nil, List.nil_append, Int.add_zero, List.map_id'] at this
    rw [this]
  have et : orderM F' t (h + c' : Nat) [] = (orderM F t (h + c : Nat) []).map (· + ((c' : Int) - c)) := by
    have := orderM_rel (F := F) (F' := F') (s := (c' : Int) - c) (P := []) t (h + c : Nat) [] (fun j a d => by
      have := I.f (p := j) (by omega) (by omega) (.inr a)
      rwa [sg_hi (by omega)] at this)
    simp only [List.map_nil, List.append_nil, List.nil_append] at this
    rw [show ((h + c : Nat) : Int) + ((c' : Int) - c) = (h + c' : Nat) by omega] at this
    exact this
  rw [eh, et] at oF'
  have mh : ∀ x ∈ orderM F h 0 [], 0 ≤ x ∧ x < h := fun x hx => by
    rcases (orderM_mem h 0 []).mp hx with e | e
    · cases e
    · omega
  have mc : ∀ x ∈ orderM F c h [], Cn h c x ∧ ¬ isRemoved (rd F x) := fun x hx => by
    rcases (orderM_mem c h []).mp hx with e | e
    · cases e
    · exact ⟨⟨e.1, by omega⟩, e.2.2⟩
  have mc' : ∀ x ∈ orderM F' c' h [], Cn h c' x ∧ ¬ isRemoved (rd F' x) := fun x hx => by
    rcases (orderM_mem c' h []).mp hx with e | e
    · cases e
    · exact ⟨⟨e.1, by omega⟩, e.2.2⟩
  have mt' : ∀ x ∈ orderM F t (h + c : Nat) [], (h + c : Nat) ≤ x ∧ x < F.length := fun x hx => by
    rcases (orderM_mem t (h + c : Nat) []).mp hx with e | e
    · cases e
    · omega
  have n0 : orderM F c h [] ≠ [] := fun e => by
    obtain ⟨p, p1, p2, p3, p4⟩ := I.sol
    have : p ∈ orderM F c h [] := (orderM_mem c h []).mpr (.inr ⟨p1, by omega, p4⟩)
    rw [e] at this; cases this
  have n0' : orderM F' c' h [] ≠ [] := fun e => by
    obtain ⟨p, p1, p2, p3, p4⟩ := I.sol'
    have : p ∈ orderM F' c' h [] := (orderM_mem c' h []).mpr (.inr ⟨p1, by omega, p4⟩)
    rw [e] at this; cases this
  have hlast : ∃ P, orderM F h 0 [] = P ++ [((h - 1 : Nat) : Int)] := by
    obtain ⟨g, rfl⟩ : ∃ g, h = g + 1 := ⟨h - 1, by omega⟩
    have := I.lri
    rw [show g + 1 - 1 = g by omega] at this ⊢
    rw [orderM_add]
    simp only [orderM]
    rw [Int.zero_add, this, if_neg (by unfold isRemoved; omega)]
    exact ⟨_, rfl⟩
  have hfirst : ∃ P, orderM F t (h + c : Nat) [] = ((h + c : Nat) : Int) :: P := by
    obtain ⟨u, rfl⟩ : ∃ u, t = u + 1 := ⟨t - 1, by omega⟩
    simp only [orderM]
    rw [I.pdi, if_neg (by unfold isRemoved; omega), orderM_pre]
    exact ⟨_, rfl⟩
  unfold sequencesM
  rw [oF, oF']
  generalize hOh : orderM F h 0 [] = Oh at mh hlast
  generalize hOc : orderM F c h [] = Oc at mc n0
  generalize hOc' : orderM F' c' h [] = Oc' at mc' n0'
  generalize hOt : orderM F t (h + c : Nat) [] = Ot at mt' hfirst
  have a0 : 0 < Oh.length := by obtain ⟨P, rfl⟩ := hlast; simp
  have w0 : 0 < Ot.length := by obtain ⟨P, rfl⟩ := hfirst; simp
  have rOc : ∀ k : Int, Oh.length ≤ k → k < (Oh.length + Oc.length : Nat) → Cn h c (rd (Oh ++ (Oc ++ Ot)) k) ∧ ¬ isRemoved (rd F (rd (Oh ++ (Oc ++ Ot)) k)) := fun k a d => by
    rw [rd_three_b a d]; exact mc _ (rd_memA (by omega) (by omega))
  have rOc' : ∀ k : Int, Oh.length ≤ k → k < (Oh.length + Oc'.length : Nat) → Cn h c' (rd (Oh ++ (Oc' ++ Ot.map (· + ((c' : Int) - c)))) k) ∧ ¬ isRemoved (rd F' (rd (Oh ++ (Oc' ++ Ot.map (· + ((c' : Int) - c)))) k)) := fun k a d => by
    rw [rd_three_b a d]; exact mc' _ (rd_memA (by omega) (by omega))
  have Q : SQI F (explM F b).1 (matchesM F) (Oh ++ (Oc ++ Ot)) F' (explM F' b).1 (matchesM F') (Oh ++ (Oc' ++ Ot.map (· + ((c' : Int) - c)))) h c c' Oh.length Oc.length Oc'.length Ot.length := {
    ol := by simp; omega
    ol' := by simp; omega
    a0 := a0, w0 := w0, m0 := List.length_pos_iff.mpr n0, m0' := List.length_pos_iff.mpr n0', h0 := hh, hc := by omega
    oa := fun k k0 k1 => by
      rw [rd_appl k0 k1, rd_appl k0 k1]
      exact ⟨rfl, mh _ (rd_memA k0 k1)⟩
    ot := fun k k0 k1 => by
      simp only [List.length_append] at k1
      rw [rd_three_c k0, rd_three_c (by omega), show k + ((Oc'.length : Int) - Oc.length) - (Oh.length + Oc'.length : Nat) = k - (Oh.length + Oc.length : Nat) by omega]
      refine ⟨?_, mt' _ (rd_memA (by omega) (by omega))⟩
      rw [rd_at (by omega) (by rw [List.length_map]; omega), rd_at (by omega) (by omega), List.getElem_map]
    oc := fun k a d => (rOc k a d).1
    oc' := fun k a d => (rOc' k a d).1
    la := by
      rw [rd_appl (by omega) (by omega)]
      obtain ⟨P, rfl⟩ := hlast
      rw [rd_at (by omega) (by omega)]; simp
    ft := by
      rw [rd_three_c (Int.le_refl _), Int.sub_self]
      obtain ⟨P, rfl⟩ := hfirst
      rfl
    ff := fun p a d o => I.f a d o
    fl := fun p a d o => (xo p a d o).1
    fm := fun p a d o => matches_iso I p a d o
    mr := fun p a d o op => by
      rcases matches_pdi F p a d op with e | ⟨e1, e2, e3⟩
      · exact .inl e
      · refine .inr ⟨e2, ?_⟩
        unfold Ou
        by_cases q : rd (matchesM F) p < h
        · exact .inl q
        · by_cases q2 : rd (matchesM F) p < (h + c : Nat)
          · exact absurd e3 (I.cn _ (by omega) q2).2.1
          · exact .inr (by omega)
    lc := fun k a d => xc _ (rOc k a d).1.1 (rOc k a d).1.2 (rOc k a d).2
    lc' := fun k a d => xc' _ (rOc' k a d).1.1 (rOc' k a d).1.2 (rOc' k a d).2
    lp := xp
    mo := matches_own I
    lri := I.lri
    fc := fun p hp => (I.cn p hp.1 hp.2).1
    fc' := fun p hp => (I.cn' p hp.1 hp.2).1 }
  generalize (explM F b).1 = L at Q
  generalize (explM F' b).1 = L' at Q
  generalize matchesM F = M at Q
  generalize matchesM F' = M' at Q
  clear xo xc xc' xp oF oF' eh et mh mc mc' mt' n0 n0' hlast hfirst rOc rOc' hOh hOc hOc' hOt
  generalize Oh ++ (Oc ++ Ot) = O at Q
  generalize Oh ++ (Oc' ++ Ot.map (· + ((c' : Int) - c))) = O' at Q
  obtain ⟨f2, f2', E2, G2, G2', g1, g2, R, gE, gG, gz, s1, s2⟩ := seqs_h Q (b := b) (O.length + 1) (O'.length + 1) 0 [] (fun _ => none) (fun _ => none) (Int.le_refl _) (by omega) (by omega) (by omega) { r := fun _ _ _ _ => rfl, n := fun _ _ => rfl, n' := fun _ _ => rfl } (fun e he => by cases he) (fun x i hx => by cases hx) (fun e => by omega)
  obtain ⟨f3, Ec, k1, k2, k3⟩ := seqs_c (b := b) (M := M) Q.ol (fun k r a d => Q.endC a d r) Q.oc Q.fc (E1 := E2) (G := G2) R.n f2 Oh.length [] (by omega) (by omega) (by omega) (fun e he => by cases he)
  obtain ⟨f3', Ec', k1', k2', k3'⟩ := seqs_c (b := b) (M := M') Q.ol' (fun k r a d => Q.endC' a d r) Q.oc' Q.fc' (E1 := E2) (G := G2') R.n' f2' Oh.length [] (by omega) (by omega) (by omega) (fun e he => by cases he)
  rw [List.append_nil] at k3 k3'
  have em : E2.map (sgS h (c' - c)) = E2 := by
    have : ∀ e ∈ E2, sgS h (c' - c) e = e := fun e he => by
      unfold sgS
      have e2 : e.A.map (sg h (c' - c)) = e.A := by
        exact (List.map_congr_left (g := id) (fun p hp => show sg h (c' - c) p = id p from sg_lo (gE e he p hp).2)).trans (List.map_id _)
      rw [e2]
    exact (List.map_congr_left (g := id) this).trans (List.map_id _)
  obtain ⟨X1, X2, q1, q2, q3⟩ := seqs_t Q (b := b) (Ec := Ec) (Ec' := Ec') f3 f3' (Oh.length + Oc.length : Nat) E2 [] G2 G2' (Int.le_refl _) (by have := Q.ol; omega) (by omega) (by omega)
    { r := fun x x0 x1 xo => by
        have := R.r x x0 x1 xo
        rw [Option.map_id] at this
        rw [this]
        cases hg : G2 x with
        | none => rfl
        | some i =>
          have := gG x i hg
          simp only [id, Option.map_some, idx]
          rw [if_pos this]
      n := R.n, n' := R.n' } (fun x i hx => .inl (gG x i hx)) (fun _ => gz) (fun e he p hp => by
        rw [List.append_nil] at he
        have := gE e he p hp
        exact ⟨this.1, by omega, .inl this.2⟩)
  rw [show ((Oh.length + Oc.length : Nat) : Int) + ((Oc'.length : Int) - Oc.length) = (Oh.length + Oc'.length : Nat) by omega, em] at q3
  simp only [List.map_nil, List.append_nil] at q2 q3
  exact ⟨X1, Ec, Ec', X2, by rw [s1, k3]; exact q2, by rw [s2, k3']; exact q3, k2, q1⟩
end

/-- What all steps make of a sequence's own places. -/
theorem seqAll_at {Y : Exts} (hp : ∀ L, (Y.SM L).Perm L) {C F : List Int} : ∀ (E : List SE) (N L : List Int), (E.flatMap SE.A).Nodup → (∀ p ∈ E.flatMap SE.A, 0 ≤ p ∧ p < N.length ∧ p < L.length) →
    (∀ e ∈ E, vw e.A (seqAllM Y C F E N L).2 = ownL Y e.lv e.st e.en (vw e.A C) (vw e.A F) (vw e.A N) (vw e.A L)) ∧ (∀ q : Int, 0 ≤ q → q ∉ E.flatMap SE.A → rd (seqAllM Y C F E N L).2 q = rd L q) ∧ (seqAllM Y C F E N L).2.length = L.length
  | [], N, L, _, _ => ⟨fun e he => (by cases he), fun _ _ _ => rfl, rfl⟩
  | e :: E, N, L, hn, hr => by
    rw [List.flatMap_cons] at hn hr
    obtain ⟨nA, nE, nd⟩ := List.nodup_append.mp hn
    have hA : ∀ p ∈ e.A, _ := fun p hp => hr p (List.mem_append_left _ hp)
    have hE : ∀ p ∈ E.flatMap SE.A, _ := fun p hp => hr p (List.mem_append_right _ hp)
    obtain ⟨sN, sL⟩ := seqStep_vi (C := C) (F := F) (N := N) (L := L) (N0 := N) (L0 := L) (e := e) hp ⟨nA, fun p hp => ⟨(hA p hp).1, (hA p hp).2.1⟩⟩ ⟨nA, fun p hp => ⟨(hA p hp).1, (hA p hp).2.2⟩⟩ (Vi.refl _ _) (Vi.refl _ _)
    have hneq : ∀ p ∈ E.flatMap SE.A, p ∉ e.A := fun p hp h => nd p h p hp rfl
    obtain ⟨g1, g2, g3⟩ := seqAll_at (Y := Y) (C := C) (F := F) hp E (seqStepM Y C F e N L).1 (seqStepM Y C F e N L).2 nE (fun p hp => by
      have := hE p hp
      rw [sN.len, sL.len]; exact this)
    simp only [seqAllM]
    refine ⟨fun e' he' => ?_, fun q q0 hq => ?_, by rw [g3, sL.len]⟩
    · rcases List.mem_cons.mp he' with rfl | he'
      · rw [sL.v]
        unfold vw
        exact List.map_congr_left fun p hp => g2 p (hA p hp).1 (fun h => hneq p h hp)
      · have hin : ∀ p ∈ e'.A, p ∈ E.flatMap SE.A := fun p hp => List.mem_flatMap.mpr ⟨e', he', hp⟩
        have eN : vw e'.A (seqStepM Y C F e N L).1 = vw e'.A N := List.map_congr_left fun p hp => sN.fr p (hE p (hin p hp)).1 (hneq p (hin p hp))
        have eL : vw e'.A (seqStepM Y C F e N L).2 = vw e'.A L := List.map_congr_left fun p hp => sL.fr p (hE p (hin p hp)).1 (hneq p (hin p hp))
        have := g1 e' he'
        rw [eN, eL] at this
        exact this
    · rw [List.flatMap_cons] at hq
      rw [g2 q q0 (fun h => hq (List.mem_append_right _ h)), sL.fr q q0 (fun h => hq (List.mem_append_left _ h))]
end Go.Proofs.Ythkklpegjcnjoaa

namespace Go.Proofs.Ythkklpegjcnjoaa
open Go.Ab
set_option linter.unusedVariables false
set_option linter.unusedSimpArgs false

/-! ### An isolate's contents: the ends, and the law in plain words -/

theorem e1_frame (F : List Int) : ∀ (r : Nat) (i last : Int) (L : List Int) (q : Int), 0 ≤ i → 0 ≤ q → (q < i ∨ i + r ≤ q) → rd (e1 F r i last L).2 q = rd L q
  | 0, _, _, _, _, _, _, _ => rfl
  | r + 1, i, last, L, q, h0, q0, hq => by
    push_cast at hq
    simp only [e1]
    split
    · rw [e1_frame F r (i + 1) _ _ q (by omega) q0 (by omega)]; exact set_ne h0 q0 (by omega)
    · exact e1_frame F r (i + 1) _ _ q (by omega) q0 (by omega)
theorem e1_rel2 {F F' : List Int} {s lo hi : Int} (h0 : 0 ≤ lo) (hs : 0 ≤ lo + s) : ∀ (r : Nat) (i last : Int) (L L' : List Int), lo ≤ i → i + r ≤ hi → (∀ t : Int, i ≤ t → t < i + r → rd F' (t + s) = rd F t) → hi ≤ L.length → hi + s ≤ L'.length → AR s lo hi L L' →
    (e1 F' r (i + s) last L').1 = (e1 F r i last L).1 ∧ AR s lo hi (e1 F r i last L).2 (e1 F' r (i + s) last L').2
  | 0, i, last, L, L', _, _, _, _, _, h => ⟨rfl, h⟩
  | r + 1, i, last, L, L', hi0, h1, hF, hl, hl', h => by
    push_cast at h1
    simp only [e1]
    rw [hF i (Int.le_refl _) (by push_cast; omega), show i + s + 1 = i + 1 + s by omega]
    have hF2 : ∀ t : Int, i + 1 ≤ t → t < i + 1 + r → rd F' (t + s) = rd F t := fun t a c => hF t (by omega) (by push_cast; omega)
    have hset := h.set (i := i) (v := last) h0 hs hi0 (by omega) (by omega)
    split
    · rw [hset i hi0 (by omega)]
      exact e1_rel2 h0 hs r (i + 1) _ _ _ (by omega) (by omega) hF2 (by rw [List.length_set]; exact hl) (by rw [List.length_set]; exact hl') hset
    · rw [h i hi0 (by omega)]
      exact e1_rel2 h0 hs r (i + 1) _ _ _ (by omega) (by omega) hF2 hl hl' h

/-- The second pass over the r places from lo, with its flag. -/
def e2x (F : List Int) (b : Int) (lo : Nat) : Nat → Bool → List Int → Bool × List Int
  | 0, t, L => (t, L)
  | r + 1, t, L => e2x F b lo r (tailOf (rd F (lo + r : Nat)) t) (if tailOf (rd F (lo + r : Nat)) t = true then L.set (lo + r) b else L)
theorem e2x_ends (F : List Int) (b : Int) (lo : Nat) : ∀ (r : Nat) (t : Bool) (L : List Int), ends2M F b (lo + r) t L = ends2M F b lo (e2x F b lo r t L).1 (e2x F b lo r t L).2
  | 0, _, _ => rfl
  | r + 1, t, L => by
    rw [show lo + (r + 1) = (lo + r) + 1 by omega]
    simp only [ends2M, e2x]
    exact e2x_ends F b lo r _ _
theorem e2x_len (F : List Int) (b : Int) (lo : Nat) : ∀ (r : Nat) (t : Bool) (L : List Int), (e2x F b lo r t L).2.length = L.length
  | 0, _, _ => rfl
  | r + 1, t, L => by
    simp only [e2x]
    rw [e2x_len F b lo r]
    split
    · exact List.length_set
    · rfl
theorem e2x_frame (F : List Int) (b : Int) (lo : Nat) : ∀ (r : Nat) (t : Bool) (L : List Int) (q : Int), 0 ≤ q → (q < lo ∨ (lo + r : Nat) ≤ q) → rd (e2x F b lo r t L).2 q = rd L q
  | 0, _, _, _, _, _ => rfl
  | r + 1, t, L, q, q0, hq => by
    simp only [e2x]
    rw [e2x_frame F b lo r _ _ q q0 (by omega)]
    split
    · have := set_ne (N := L) (k := ((lo + r : Nat) : Int)) (q := q) (x := b) (by omega) q0 (by omega)
      rwa [Int.toNat_natCast] at this
    · rfl
theorem e2x_rel {F F' : List Int} {b : Int} {lo lo' : Nat} {hi : Int} : ∀ (r : Nat) (t : Bool) (L L' : List Int), (∀ j : Nat, j < r → rd F' (lo' + j : Nat) = rd F (lo + j : Nat)) → lo + r ≤ L.length → lo' + r ≤ L'.length → AR ((lo' : Int) - lo) lo hi L L' →
    (e2x F' b lo' r t L').1 = (e2x F b lo r t L).1 ∧ AR ((lo' : Int) - lo) lo hi (e2x F b lo r t L).2 (e2x F' b lo' r t L').2
  | 0, t, L, L', _, _, _, h => ⟨rfl, h⟩
  | r + 1, t, L, L', hF, h1, h2, h => by
    simp only [e2x]
    rw [hF r (by omega)]
    have hF2 : ∀ j : Nat, j < r → rd F' (lo' + j : Nat) = rd F (lo + j : Nat) := fun j hj => hF j (by omega)
    by_cases g : tailOf (rd F (lo + r : Nat)) t = true
    · rw [if_pos g, if_pos g]
      have hs := h.set (i := ((lo + r : Nat) : Int)) (v := b) (by omega) (by omega) (by omega) (by omega) (by omega)
      rw [Int.toNat_natCast, show ((lo + r : Nat) : Int) + ((lo' : Int) - lo) = (lo' + r : Nat) by omega, Int.toNat_natCast] at hs
      exact e2x_rel r _ _ _ hF2 (by rw [List.length_set]; omega) (by rw [List.length_set]; omega) hs
    · rw [if_neg g, if_neg g]
      exact e2x_rel r _ _ _ hF2 (by omega) (by omega) h
theorem e2x_false {F : List Int} {b : Int} {lo : Nat} : ∀ (r : Nat) (t : Bool) (L : List Int), (∀ j : Nat, j < r → rd F (lo + j : Nat) ≠ 10 ∧ rd F (lo + j : Nat) ≠ 11) → (t = false ∨ ∃ j : Nat, j < r ∧ rd F (lo + j : Nat) ≠ 12 ∧ ¬ isRemoved (rd F (lo + j : Nat)) ∧ ¬ isOpener (rd F (lo + j : Nat)) ∧ rd F (lo + j : Nat) ≠ 22) → (e2x F b lo r t L).1 = false
  | 0, t, L, _, h => by
    rcases h with h | ⟨j, hj, _⟩
    · exact h
    · omega
  | r + 1, t, L, hn, h => by
    simp only [e2x]
    have hr := hn r (by omega)
    refine e2x_false r _ _ (fun j hj => hn j (by omega)) ?_
    unfold tailOf
    rw [if_neg (by omega)]
    by_cases g : rd F (lo + r : Nat) ≠ 12 ∧ ¬isOpener (rd F (lo + r : Nat)) ∧ rd F (lo + r : Nat) ≠ 22 ∧ ¬isRemoved (rd F (lo + r : Nat))
    · rw [if_pos g]; exact .inl rfl
    · rw [if_neg g]
      rcases h with h | ⟨j, hj, p1, p2, p3, p4⟩
      · exact .inl h
      · by_cases e : j = r
        · rw [e] at p1 p2 p3 p4; exact absurd ⟨p1, p3, p4, p2⟩ g
        · exact .inr ⟨j, by omega, p1, p2, p3, p4⟩

section
variable {F F' : List Int} {h c c' t : Nat}
theorem ends_iso {b : Int} {W W' : List Int} (I : Iso F F' h c c' t) (hw : W.length = F.length) (hw' : W'.length = F'.length) (hW : ∀ p : Int, 0 ≤ p → p < F.length → Ou h c p → ¬ isRemoved (rd F p) → rd W' (sg h (c' - c) p) = rd W p)
    (hR : ∀ p : Int, 0 ≤ p → p < F.length → Ou h c p → isRemoved (rd F p) → rd W' (sg h (c' - c) p) = rd W p) :
    ∀ p : Int, 0 ≤ p → p < F.length → Ou h c p → rd (endsM F' b W') (sg h (c' - c) p) = rd (endsM F b W) p := by
  have hW2 : ∀ p : Int, 0 ≤ p → p < F.length → Ou h c p → rd W' (sg h (c' - c) p) = rd W p := fun p a d o => by
    by_cases e : isRemoved (rd F p)
    · exact hR p a d o e
    · exact hW p a d o e
  clear hW hR
  have hl := I.len
  have hl' := I.len'
  have hh := I.h0
  obtain ⟨u, rfl⟩ : ∃ u, t = u + 1 := ⟨t - 1, by have := I.t0; omega⟩
  have one : ∀ (F : List Int) (h c : Nat) (W : List Int), rd F (h + c : Nat) = 22 → (e1 F (h + (c + (1 + u))) 0 b W).2 = (e1 F u ((h + c : Nat) + 1) (rd (e1 F c h (e1 F h 0 b W).1 (e1 F h 0 b W).2).2 (h + c : Nat)) (e1 F c h (e1 F h 0 b W).1 (e1 F h 0 b W).2).2).2 := fun F h c W hp => by
    rw [e1_add, e1_add, e1_add, Int.zero_add, show (h : Int) + c = (h + c : Nat) by omega]
    simp only [e1]
    rw [hp, if_neg (by unfold isRemoved; omega)]
    rfl
  -- the first pass
  obtain ⟨a1, a2⟩ := e1_rel2 (F := F) (F' := F') (s := 0) (lo := 0) (hi := h) (Int.le_refl _) (by omega) h 0 b W W' (Int.le_refl _) (by omega) (fun p a d => by rw [Int.add_zero]; exact I.hd p a (by omega)) (by omega) (by omega) (fun p a d => by
    have := hW2 p a (by omega) (.inl d)
    rw [sg_lo d] at this
    rw [Int.add_zero]; exact this)
  rw [Int.add_zero] at a1 a2
  have V1 := one F h c W I.pdi
  have V1' := one F' h c' W' I.two.pdi
  rw [show h + (c + (1 + u)) = F.length by omega] at V1
  rw [show h + (c' + (1 + u)) = F'.length by omega] at V1'
  have f1 := fun q a d => e1_frame F h 0 b W q (Int.le_refl _) a d
  have f1' := fun q a d => e1_frame F' h 0 b W' q (Int.le_refl _) a d
  have f2 := fun q a d => e1_frame F c h (e1 F h 0 b W).1 (e1 F h 0 b W).2 q (by omega) a d
  have f2' := fun q a d => e1_frame F' c' h (e1 F' h 0 b W').1 (e1 F' h 0 b W').2 q (by omega) a d
  have l2 : (e1 F c h (e1 F h 0 b W).1 (e1 F h 0 b W).2).2.length = F.length := by rw [e1_len, e1_len, hw]
  have l2' : (e1 F' c' h (e1 F' h 0 b W').1 (e1 F' h 0 b W').2).2.length = F'.length := by rw [e1_len, e1_len, hw']
  generalize (e1 F c h (e1 F h 0 b W).1 (e1 F h 0 b W).2).2 = X at V1 f2 l2
  generalize (e1 F' c' h (e1 F' h 0 b W').1 (e1 F' h 0 b W').2).2 = X' at V1' f2' l2'
  have tX : AR ((c' : Int) - c) (h + c : Nat) F.length X X' := fun p a d => by
    rw [f2 p (by omega) (.inr (by omega)), f1 p (by omega) (.inr (by omega)), f2' _ (by omega) (.inr (by omega)), f1' _ (by omega) (.inr (by omega))]
    have := hW2 p (by omega) d (.inr a)
    rwa [sg_hi (by omega)] at this
  have e0 : rd X' (h + c' : Nat) = rd X (h + c : Nat) := by
    have := tX (h + c : Nat) (Int.le_refl _) (by omega)
    rwa [show ((h + c : Nat) : Int) + ((c' : Int) - c) = (h + c' : Nat) by omega] at this
  obtain ⟨_, b2⟩ := e1_rel2 (F := F) (F' := F') (s := (c' : Int) - c) (lo := (h + c : Nat)) (hi := F.length) (by omega) (by omega) u ((h + c : Nat) + 1) (rd X (h + c : Nat)) X X' (by omega) (by omega) (fun p a d => by
    have := I.f (p := p) (by omega) (by omega) (.inr (by omega))
    rwa [sg_hi (by omega)] at this) (by omega) (by omega) tX
  rw [show ((h + c : Nat) : Int) + 1 + ((c' : Int) - c) = (h + c' : Nat) + 1 by omega, ← V1] at b2
  rw [e0] at V1'
  rw [← V1'] at b2
  have loV : AR 0 0 h (e1 F F.length 0 b W).2 (e1 F' F'.length 0 b W').2 := fun p a d => by
    rw [V1, V1', e1_frame _ _ _ _ _ p (by omega) a (.inl (by omega)), Int.add_zero, e1_frame _ _ _ _ _ p (by omega) a (.inl (by omega)), f2 p a (.inl d), f2' p a (.inl d)]
    have := a2 p a d
    rwa [Int.add_zero] at this
  have lV := e1_len F F.length 0 b W
  have lV' := e1_len F' F'.length 0 b W'
  rw [hw] at lV
  rw [hw'] at lV'
  -- the second pass
  unfold endsM
  rw [← e1_ends, ← e1_ends]
  generalize (e1 F F.length 0 b W).2 = V at b2 loV lV
  generalize (e1 F' F'.length 0 b W').2 = V' at b2 loV lV'
  have s1 : ∀ (F : List Int) (h c n : Nat) (V : List Int), n = h + c + (u + 1) → ends2M F b n true V = (e2x F b 0 h (e2x F b h c (e2x F b (h + c) (u + 1) true V).1 (e2x F b (h + c) (u + 1) true V).2).1 (e2x F b h c (e2x F b (h + c) (u + 1) true V).1 (e2x F b (h + c) (u + 1) true V).2).2).2 := fun F h c n V e => by
    rw [e, e2x_ends, e2x_ends]
    have := e2x_ends F b 0 h (e2x F b h c (e2x F b (h + c) (u + 1) true V).1 (e2x F b (h + c) (u + 1) true V).2).1 (e2x F b h c (e2x F b (h + c) (u + 1) true V).1 (e2x F b (h + c) (u + 1) true V).2).2
    rw [Nat.zero_add] at this
    rw [this]; rfl
  rw [s1 F h c F.length V hl, s1 F' h c' F'.length V' hl']
  have es : (((h + c' : Nat) : Int) - (h + c : Nat)) = (c' : Int) - c := by omega
  obtain ⟨c1, c2⟩ := e2x_rel (F := F) (F' := F') (b := b) (lo := h + c) (lo' := h + c') (hi := F.length) (u + 1) true V V' (fun j hj => by
    have := I.tl j (by omega) (by omega)
    rw [show ((h + c' + j : Nat) : Int) = (h + c' : Nat) + (j : Int) by omega, show ((h + c + j : Nat) : Int) = (h + c : Nat) + (j : Int) by omega]; exact this) (by omega) (by omega) (by rw [es]; exact b2)
  have g1 := fun q a d => e2x_frame F b (h + c) (u + 1) true V q a d
  have g1' := fun q a d => e2x_frame F' b (h + c') (u + 1) true V' q a d
  have m1 := e2x_len F b (h + c) (u + 1) true V
  have m1' := e2x_len F' b (h + c') (u + 1) true V'
  rw [es] at c2
  generalize e2x F b (h + c) (u + 1) true V = T at c1 c2 g1 m1
  generalize e2x F' b (h + c') (u + 1) true V' = T' at c1 c2 g1' m1'
  have fl : (e2x F b h c T.1 T.2).1 = false := e2x_false c _ _ (fun j hj => ⟨(I.cn (h + j : Nat) (by omega) (by omega)).2.2.1, (I.cn (h + j : Nat) (by omega) (by omega)).2.2.2⟩) (.inr (by
    obtain ⟨p, p1, p2, p3, p4⟩ := I.sol
    have := I.cn p p1 p2
    have e : p = (h + (p - h).toNat : Nat) := by omega
    rw [e] at p3 p4 this
    exact ⟨(p - h).toNat, by omega, p3, p4, this.1, this.2.1⟩))
  have fl' : (e2x F' b h c' T'.1 T'.2).1 = false := e2x_false c' _ _ (fun j hj => ⟨(I.cn' (h + j : Nat) (by omega) (by omega)).2.2.1, (I.cn' (h + j : Nat) (by omega) (by omega)).2.2.2⟩) (.inr (by
    obtain ⟨p, p1, p2, p3, p4⟩ := I.sol'
    have := I.cn' p p1 p2
    have e : p = (h + (p - h).toNat : Nat) := by omega
    rw [e] at p3 p4 this
    exact ⟨(p - h).toNat, by omega, p3, p4, this.1, this.2.1⟩))
  have g2 := fun q a d => e2x_frame F b h c T.1 T.2 q a d
  have g2' := fun q a d => e2x_frame F' b h c' T'.1 T'.2 q a d
  have m2 := e2x_len F b h c T.1 T.2
  have m2' := e2x_len F' b h c' T'.1 T'.2
  generalize e2x F b h c T.1 T.2 = U at fl g2 m2
  generalize e2x F' b h c' T'.1 T'.2 = U' at fl' g2' m2'
  rw [fl, fl']
  obtain ⟨_, d2⟩ := e2x_rel (F := F) (F' := F') (b := b) (lo := 0) (lo' := 0) (hi := h) h false U.2 U'.2 (fun j hj => I.hd _ (by omega) (by omega)) (by omega) (by omega) (fun p a d => by
    rw [Int.sub_self, g2 p a (.inl d), g1 p a (.inl (by omega)), Int.add_zero, g2' p a (.inl d), g1' p a (.inl (by omega))]
    have := loV p a d
    rwa [Int.add_zero] at this)
  intro p a d o
  unfold Ou at o
  by_cases e : p < h
  · rw [sg_lo e]
    have := d2 p a e
    rwa [Int.sub_self, Int.add_zero] at this
  · rw [sg_hi (by omega), e2x_frame _ _ _ _ _ _ _ a (.inr (by omega)), e2x_frame _ _ _ _ _ _ _ (by omega) (.inr (by omega)), g2 p a (.inr (by omega)), g2' _ (by omega) (.inr (by omega))]
    exact c2 p (by omega) d

/-- THE LAW in plain words: an isolate's contents change no level around it. -/
theorem levels_iso {Y : Exts} (hp : ∀ L, (Y.SM L).Perm L) {C C' : List Int} {b : Int} (hb : 0 ≤ b ∧ b ≤ 1) (I : Iso (C.map Y.LB) (C'.map Y.LB) h c c' t) (hC : ∀ p : Int, 0 ≤ p → p < C.length → Ou h c p → rd C' (sg h (c' - c) p) = rd C p) (hd : dp (C.map Y.LB) (h - 1) ≤ 60) :
    ∀ p : Int, 0 ≤ p → p < C.length → Ou h c p → rd (levelsM Y C' b) (sg h (c' - c) p) = rd (levelsM Y C b) p := by
  have hbO : ∀ F : List Int, bOf b F = b := fun F => by unfold bOf; rw [if_neg (by omega)]
  unfold levelsM
  simp only [hbO]
  have hFl : (C.map Y.LB).length = C.length := List.length_map _
  generalize C.map Y.LB = F at I hd hFl
  generalize C'.map Y.LB = F' at I
  obtain ⟨E1, Ec, Ec', E2, q1, q2, q3, q4⟩ := seq_iso I hb hd
  obtain ⟨xo, _, _, _⟩ := expl_iso I hb hd
  obtain ⟨nd, mem⟩ := seqs_known F hb
  obtain ⟨nd', mem'⟩ := seqs_known F' hb
  have lX := expl_len F b
  have lX' := expl_len F' b
  have r1 := seqAll_at (Y := Y) (C := C) (F := F) hp (sequencesM F (explM F b).1 (matchesM F) b) (explM F b).2 (explM F b).1 nd (fun p h => by have := (mem p).mp h; omega)
  have r2 := seqAll_at (Y := Y) (C := C') (F := F') hp (sequencesM F' (explM F' b).1 (matchesM F') b) (explM F' b).2 (explM F' b).1 nd' (fun p h => by have := (mem' p).mp h; omega)
  rw [← hFl]
  rw [← hFl] at hC
  refine ends_iso I (by rw [r1.2.2, lX.1]) (by rw [r2.2.2, lX'.1]) (fun p a d o nr => ?_) (fun p a d o rm => ?_)
  · obtain ⟨e, he, hpe⟩ := List.mem_flatMap.mp ((mem p).mpr ⟨a, d, nr⟩)
    have he2 : e ∈ E1 ++ E2 := by
      rw [q1] at he
      rcases List.mem_append.mp he with he | he
      · exact List.mem_append_left _ he
      · rcases List.mem_append.mp he with he | he
        · have := q3 e he p hpe
          unfold Cn at this; unfold Ou at o; omega
        · exact List.mem_append_right _ he
    have he3 : sgS h (c' - c) e ∈ sequencesM F' (explM F' b).1 (matchesM F') b := by
      rw [q2]
      rcases List.mem_append.mp he2 with he | he
      · exact List.mem_append_left _ (List.mem_map_of_mem he)
      · exact List.mem_append_right _ (List.mem_append_right _ (List.mem_map_of_mem he))
    have hvw : ∀ X X' : List Int, (∀ p : Int, 0 ≤ p → p < F.length → Ou h c p → rd X' (sg h (c' - c) p) = rd X p) → vw (sgS h (c' - c) e).A X' = vw e.A X := fun X X' hX => by
      unfold vw sgS
      rw [List.map_map]
      exact List.map_congr_left fun q hq => by
        have := q4 e he2 q hq
        exact hX q this.1 this.2.1 this.2.2
    have k1 := r1.1 e he
    have k2 := r2.1 _ he3
    rw [hvw C C' hC, hvw F F' (fun p a d o => I.f a d o), hvw (explM F b).2 (explM F' b).2 (fun p a d o => (xo p a d o).2), hvw (explM F b).1 (explM F' b).1 (fun p a d o => (xo p a d o).1)] at k2
    have k3 := k2.trans k1.symm
    obtain ⟨j, hj, rfl⟩ := List.mem_iff_getElem.mp hpe
    have h1 := congrArg (fun v => v[j]?) k3
    simp only [vw, sgS, List.getElem?_map, List.getElem?_eq_getElem hj, Option.map_some] at h1
    exact Option.some.inj h1
  · have ou : ∀ q ∈ (sequencesM F (explM F b).1 (matchesM F) b).flatMap SE.A, q ≠ p := fun q hq e => by have := (mem q).mp hq; rw [e] at this; exact this.2.2 rm
    have hf := I.f a d o
    have hnn := sg_nn (s := (c' : Int) - c) (by omega) o a
    rw [r1.2.1 p a (fun h => ou p h rfl), r2.2.1 _ hnn (fun h => by have := (mem' _).mp h; rw [hf] at this; exact this.2.2 rm)]
    exact (xo p a d o).1
end
end Go.Proofs.Ythkklpegjcnjoaa

namespace Go.Proofs.Ythkklpegjcnjoaa
open Go.Ab
set_option linter.unusedVariables false
set_option linter.unusedSimpArgs false

/-- Contents that open and close nothing, and hold something solid. -/
def Inn (Y : Exts) (C : List Int) : Prop := (∀ p : Int, 0 ≤ p → p < C.length → ¬ isOpener (Y.LB (rd C p)) ∧ Y.LB (rd C p) ≠ 22 ∧ Y.LB (rd C p) ≠ 10 ∧ Y.LB (rd C p) ≠ 11) ∧ ∃ p : Int, 0 ≤ p ∧ p < C.length ∧ Y.LB (rd C p) ≠ 12 ∧ ¬ isRemoved (Y.LB (rd C p))
theorem rd_map {f : Int → Int} {C : List Int} {p : Int} (h0 : 0 ≤ p) (h1 : p < C.length) : rd (C.map f) p = f (rd C p) := by
  rw [rd_at h0 (by rw [List.length_map]; exact h1), rd_at h0 h1, List.getElem_map]

theorem inn_at {Y : Exts} {C1 B C2 : List Int} (h : Inn Y B) : (∀ p : Int, C1.length ≤ p → p < (C1.length + B.length : Nat) → ¬ isOpener (rd ((C1 ++ (B ++ C2)).map Y.LB) p) ∧ rd ((C1 ++ (B ++ C2)).map Y.LB) p ≠ 22 ∧ rd ((C1 ++ (B ++ C2)).map Y.LB) p ≠ 10 ∧ rd ((C1 ++ (B ++ C2)).map Y.LB) p ≠ 11) ∧
    ∃ p : Int, C1.length ≤ p ∧ p < (C1.length + B.length : Nat) ∧ rd ((C1 ++ (B ++ C2)).map Y.LB) p ≠ 12 ∧ ¬ isRemoved (rd ((C1 ++ (B ++ C2)).map Y.LB) p) := by
  have e : ∀ p : Int, C1.length ≤ p → p < (C1.length + B.length : Nat) → rd ((C1 ++ (B ++ C2)).map Y.LB) p = Y.LB (rd B (p - C1.length)) := fun p a d => by
    rw [rd_map (by omega) (by simp only [List.length_append]; omega), rd_three_b a d]
  refine ⟨fun p a d => ?_, ?_⟩
  · rw [e p a d]; exact h.1 _ (by omega) (by omega)
  · obtain ⟨p, p1, p2, p3, p4⟩ := h.2
    refine ⟨p + C1.length, by omega, by omega, ?_⟩
    rw [e _ (by omega) (by omega), show p + (C1.length : Int) - C1.length = p by omega]
    exact ⟨p3, p4⟩

theorem iso_text {Y : Exts} (hp : ∀ L, (Y.SM L).Perm L) {Ca Cb Cc Cd C1 C2 : List Int} (e1 : C1 = Ca ++ [8294]) (e2 : C2 = [8297] ++ Cd) (hL : Y.LB 8294 = 19) (hP : Y.LB 8297 = 22) (hb : Inn Y Cb) (hc : Inn Y Cc) (hd : dp (Ca.map Y.LB) Ca.length ≤ 60) :
    (∀ i : Int, 0 ≤ i → i < C1.length → rd (levelsM Y (C1 ++ Cc ++ C2) 0) i = rd (levelsM Y (C1 ++ Cb ++ C2) 0) i) ∧
    (∀ i : Int, 0 ≤ i → i < C2.length → rd (levelsM Y (C1 ++ Cc ++ C2) 0) ((C1.length + Cc.length : Nat) + i) = rd (levelsM Y (C1 ++ Cb ++ C2) 0) ((C1.length + Cb.length : Nat) + i)) := by
  rw [List.append_assoc, List.append_assoc]
  have l1 : C1.length = Ca.length + 1 := by rw [e1]; simp
  have l2 : C2.length = Cd.length + 1 := by rw [e2]; simp
  have hd0 : ∀ B : List Int, ∀ p : Int, 0 ≤ p → p < C1.length → rd (C1 ++ (B ++ C2)) p = rd C1 p := fun B p a d => rd_appl a d
  have tl0 : ∀ B : List Int, ∀ p : Int, 0 ≤ p → p < C2.length → rd (C1 ++ (B ++ C2)) ((C1.length + B.length : Nat) + p) = rd C2 p := fun B p a d => by
    rw [rd_three_c (by omega)]; congr 1; omega
  have ln : ∀ B : List Int, (C1 ++ (B ++ C2)).length = C1.length + B.length + C2.length := fun B => by simp only [List.length_append]; omega
  have I : Iso ((C1 ++ (Cb ++ C2)).map Y.LB) ((C1 ++ (Cc ++ C2)).map Y.LB) C1.length Cb.length Cc.length C2.length := {
    h0 := by omega
    t0 := by omega
    len := by rw [List.length_map, ln]
    len' := by rw [List.length_map, ln]
    hd := fun p a d => by rw [rd_map a (by rw [ln]; omega), rd_map a (by rw [ln]; omega), hd0 _ p a d, hd0 _ p a d]
    tl := fun p a d => by rw [rd_map (by omega) (by rw [ln]; omega), rd_map (by omega) (by rw [ln]; omega), tl0 _ p a d, tl0 _ p a d]
    cn := (inn_at hb).1
    cn' := (inn_at hc).1
    lri := by
      rw [rd_map (by omega) (by rw [ln]; omega), hd0 _ _ (by omega) (by omega), e1, rd_at (by omega) (by simp <;> omega)]
      simp [hL]
    pdi := by
      have := tl0 Cb 0 (Int.le_refl _) (by omega)
      rw [Int.add_zero] at this
      rw [rd_map (by omega) (by rw [ln]; omega), this, e2]
      exact hP
    sol := (inn_at hb).2
    sol' := (inn_at hc).2 }
  have key := levels_iso hp (b := 0) ⟨Int.le_refl _, by omega⟩ I (fun p a d o => by
    rw [ln] at d
    unfold Ou at o
    by_cases e : p < C1.length
    · rw [sg_lo e, hd0 _ p a e, hd0 _ p a e]
    · rw [sg_hi (by omega)]
      have h1 := tl0 Cb (p - (C1.length + Cb.length : Nat)) (by omega) (by omega)
      have h2 := tl0 Cc (p - (C1.length + Cb.length : Nat)) (by omega) (by omega)
      rw [show ((C1.length + Cb.length : Nat) : Int) + (p - (C1.length + Cb.length : Nat)) = p by omega] at h1
      rw [show ((C1.length + Cc.length : Nat) : Int) + (p - (C1.length + Cb.length : Nat)) = p + ((Cc.length : Int) - Cb.length) by omega] at h2
      rw [h1, h2]) (by
    rw [show C1.length - 1 = Ca.length by omega, dp_congr (F := Ca.map Y.LB) (F' := (C1 ++ (Cb ++ C2)).map Y.LB) Ca.length (fun p a d => by
      rw [rd_map a (by rw [ln]; omega), hd0 _ p a (by omega), rd_map a d, e1, rd_appl a d])]
    exact hd)
  refine ⟨fun i a d => ?_, fun i a d => ?_⟩
  · have := key i a (by rw [ln]; omega) (.inl d)
    rwa [sg_lo d] at this
  · have := key ((C1.length + Cb.length : Nat) + i) (by omega) (by rw [ln]; omega) (.inr (by omega))
    rw [sg_hi (by omega)] at this
    rw [← this]; congr 1; omega
end Go.Proofs.Ythkklpegjcnjoaa
