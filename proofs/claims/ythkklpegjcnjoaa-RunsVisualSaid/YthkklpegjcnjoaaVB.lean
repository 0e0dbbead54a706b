/- A part of the proof: rules for walking code over the evaluator, and what the functions that were walked come to: no condition but those that each theorem states. -/
import Derived.Test.YthkklpegjcnjoaaVA
import Derived.Test.YthkklpegjcnjoaaTE
import Derived.Test.YthkklpegjcnjoaaTD
set_option linter.unusedVariables false
set_option linter.unusedSimpArgs false
namespace Go.Ab
set_option linter.unusedVariables false
set_option linter.unusedSimpArgs false

/-! ### Rows of levels turned round with what bears them -/

def swp {α : Type} (v : Int) : List (Int × α) → List (Int × α) → List (Int × α)
  | acc, [] => acc
  | acc, x :: xs => if v ≤ x.1 then swp v (x :: acc) xs else acc ++ x :: swp v [] xs
def dn {α : Type} : Nat → List (Int × α) → List (Int × α)
  | 0, xs => xs
  | v + 1, xs => dn v (swp ((v : Int) + 1) [] xs)

theorem swp_perm {α : Type} {v : Int} : ∀ (xs acc : List (Int × α)), (swp v acc xs).Perm (acc ++ xs)
  | [], acc => by simp [swp]
  | x :: xs, acc => by
    simp only [swp]
    split
    · exact (swp_perm xs (x :: acc)).trans (List.perm_middle.symm)
    · exact List.Perm.append_left _ (List.Perm.cons _ (swp_perm xs []))
theorem dn_perm {α : Type} : ∀ (v : Nat) (xs : List (Int × α)), (dn v xs).Perm xs
  | 0, _ => List.Perm.refl _
  | v + 1, xs => (dn_perm v _).trans (by simpa using swp_perm xs [])

/-- The levels stay or go along: the same answer to each question from w down. -/
def RW {α : Type} (w : Int) (x y : Int × α) : Prop := x.2 = y.2 ∧ ∀ v : Int, v ≤ w → (v ≤ x.1 ↔ v ≤ y.1)
theorem RW.mono {α : Type} {w w' : Int} (h : w' ≤ w) {x y : Int × α} (r : RW w x y) : RW w' x y := ⟨r.1, fun v hv => r.2 v (by omega)⟩
theorem swp_rw {α : Type} {w v : Int} (hv : v ≤ w) : ∀ {xs ys acc acc' : List (Int × α)}, L2 (RW w) acc acc' → L2 (RW w) xs ys → L2 (RW w) (swp v acc xs) (swp v acc' ys)
  | [], _, acc, acc', ha, h => by cases h; exact ha
  | x :: xs, _, acc, acc', ha, h => by
    cases h with
    | cons hx hxs =>
      rename_i y ys
      simp only [swp]
      by_cases c : v ≤ x.1
      · rw [if_pos c, if_pos ((hx.2 v hv).mp c)]
        exact swp_rw hv (.cons hx ha) hxs
      · rw [if_neg c, if_neg (fun h => c ((hx.2 v hv).mpr h))]
        exact ha.append (.cons hx (swp_rw hv .nil hxs))
theorem dn_rw {α : Type} : ∀ (v : Nat) {w : Int} {xs ys : List (Int × α)}, (v : Int) ≤ w → L2 (RW w) xs ys → L2 (RW w) (dn v xs) (dn v ys)
  | 0, _, _, _, _, h => h
  | v + 1, w, xs, ys, hv, h => dn_rw v (by omega) (swp_rw (by omega) .nil h)
theorem L2.snd {α : Type} {w : Int} {xs ys : List (Int × α)} (h : L2 (RW w) xs ys) : xs.map Prod.snd = ys.map Prod.snd := by
  induction h with
  | nil => rfl
  | cons h _ ih => simp only [List.map_cons, h.1, ih]

theorem zip_high {α : Type} {v : Int} : ∀ {l : List Int} {acc : List (Int × α)}, l.length = acc.length → (∀ x ∈ l, v ≤ x) → (∀ x ∈ acc, v ≤ x.1) → L2 (RW (v - 1)) (l.zip (acc.map Prod.snd)) acc
  | [], [], _, _, _ => .nil
  | a :: l, x :: acc, h, h1, h2 => .cons ⟨rfl, fun u hu => ⟨fun _ => by have := h2 x List.mem_cons_self; omega, fun _ => by have := h1 a List.mem_cons_self; show u ≤ a; omega⟩⟩
      (zip_high (by simpa using h) (fun y hy => h1 y (List.mem_cons_of_mem _ hy)) (fun y hy => h2 y (List.mem_cons_of_mem _ hy)))
theorem zip_self {α : Type} : ∀ (xs : List (Int × α)), (xs.map Prod.fst).zip (xs.map Prod.snd) = xs
  | [] => rfl
  | x :: xs => by simp [zip_self xs]
/-- The levels where they stood, or those that went along: alike below v. -/
theorem swp_zip {α : Type} {v : Int} : ∀ (xs acc : List (Int × α)), (∀ x ∈ acc, v ≤ x.1) → L2 (RW (v - 1)) (((acc.map Prod.fst).reverse ++ xs.map Prod.fst).zip ((swp v acc xs).map Prod.snd)) (swp v acc xs)
  | [], acc, ha => by
    simp only [List.map_nil, List.append_nil, swp]
    exact zip_high (by simp) (fun x hx => by
      rw [List.mem_reverse] at hx
      obtain ⟨y, hy, rfl⟩ := List.mem_map.mp hx
      exact ha y hy) ha
  | x :: xs, acc, ha => by
    simp only [swp]
    by_cases c : v ≤ x.1
    · rw [if_pos c]
      have := swp_zip (v := v) xs (x :: acc) (fun y hy => by
        rcases List.mem_cons.mp hy with rfl | hy
        · exact c
        · exact ha y hy)
      simpa using this
    · rw [if_neg c, List.map_append, List.map_cons, List.map_cons, List.zip_append (by simp)]
      refine (zip_high (by simp) (fun y hy => by
        rw [List.mem_reverse] at hy
        obtain ⟨z, hz, rfl⟩ := List.mem_map.mp hy
        exact ha z hz) ha).append (.cons ⟨rfl, fun _ _ => Iff.rfl⟩ ?_)
      have h := swp_zip (v := v) xs [] (fun y hy => by cases hy)
      rw [List.map_nil, List.reverse_nil, List.nil_append] at h
      exact h

/-! ### The passes, so told -/

theorem take_drop_zip {l out : List Int} {b : Nat} (hb : b < l.length) (ho : out.length = l.length) : (l.drop b).zip (out.drop b) = (l.getD b 0, out.getD b 0) :: (l.drop (b + 1)).zip (out.drop (b + 1)) := by
  have h1 : l.drop b = l.getD b 0 :: l.drop (b + 1) := by rw [List.drop_eq_getElem_cons hb, List.getD_eq_getElem?_getD, List.getElem?_eq_getElem hb]; rfl
  have h2 : out.drop b = out.getD b 0 :: out.drop (b + 1) := by rw [List.drop_eq_getElem_cons (by omega), List.getD_eq_getElem?_getD, List.getElem?_eq_getElem (by omega)]; rfl
  rw [h1, h2]; rfl

theorem rev_drop (out : List Int) (a b c : Nat) (h : a ≤ b) (hb : b ≤ c) (hc : b ≤ out.length) : (rev out a b).drop c = out.drop c := by
  apply List.ext_getElem?
  intro p
  rw [List.getElem?_drop, List.getElem?_drop, rev_get _ _ _ h hc, if_neg (by omega)]
theorem rev_take (out : List Int) (a b : Nat) (h : a ≤ b) (hc : b < out.length) : (rev out a b).take (b + 1) = out.take a ++ ((out.drop a).take (b - a)).reverse ++ [out.getD b 0] := by
  have h2 : out.drop b = out.getD b 0 :: out.drop (b + 1) := by rw [List.drop_eq_getElem_cons (by omega), List.getD_eq_getElem?_getD, List.getElem?_eq_getElem (by omega)]; rfl
  unfold rev
  rw [h2, List.take_append, List.take_of_length_le (by simp; omega)]
  congr 1
  simp only [List.length_append, List.length_take, List.length_reverse, List.length_drop]
  rw [show b + 1 - (min a out.length + min (b - a) (out.length - a)) = 1 by omega]
  rfl

theorem pass_swp (l : List Int) (v : Int) : ∀ (m a b : Nat) (out : List Int) (acc : List (Int × Int)), 2 * (l.length - a) + (l.length - b) ≤ m → a ≤ b → a < l.length → b ≤ l.length → out.length = l.length → acc.map Prod.snd = ((out.drop a).take (b - a)).reverse →
    (if a < endOf l v b then pass l v (endOf l v b + 1) (rev out a (endOf l v b)) else pass l v (a + 1) out) = out.take a ++ (swp v acc ((l.drop b).zip (out.drop b))).map Prod.snd := by
  intro m
  induction m with
  | zero => intro a b out acc h h1 h2; omega
  | succ m ih =>
    intro a b out acc hm hab han hbn ho hacc
    by_cases hb : b < l.length
    · rw [take_drop_zip hb ho]
      by_cases hv : v ≤ l.getD b 0
      · have e : endOf l v b = endOf l v (b + 1) := by rw [endOf, if_pos hb, if_pos hv]
        rw [e]
        simp only [swp, if_pos hv]
        refine ih a (b + 1) out _ (by omega) (by omega) han (by omega) ho ?_
        have h2 : (out.drop a).take (b + 1 - a) = (out.drop a).take (b - a) ++ [out.getD b 0] := by
          rw [show b + 1 - a = b - a + 1 by omega, List.take_add_one, List.getElem?_drop, show a + (b - a) = b by omega, List.getD_eq_getElem?_getD, List.getElem?_eq_getElem (by omega)]; rfl
        rw [h2, List.map_cons, hacc]; simp
      · have e : endOf l v b = b := by rw [endOf, if_pos hb, if_neg hv]
        rw [e]
        simp only [swp, if_neg hv]
        have hlen : (rev out a b).length = l.length := by rw [rev_length _ _ _ hab (by omega)]; exact ho
        have step : pass l v (b + 1) (rev out a b) = (rev out a b).take (b + 1) ++ (swp v [] ((l.drop (b + 1)).zip ((rev out a b).drop (b + 1)))).map Prod.snd := by
          by_cases hb1 : b + 1 < l.length
          · rw [pass, if_pos hb1]
            exact ih (b + 1) (b + 1) _ [] (by omega) (Nat.le_refl _) hb1 (by omega) hlen (by simp)
          · rw [pass, if_neg hb1, List.drop_of_length_le (by omega)]
            simp only [List.zip_nil_left, swp, List.map_nil, List.append_nil]
            rw [List.take_of_length_le (by omega)]
        have hgoal : pass l v (b + 1) (rev out a b) = out.take a ++ (acc ++ (l.getD b 0, out.getD b 0) :: swp v [] ((l.drop (b + 1)).zip (out.drop (b + 1)))).map Prod.snd := by
          rw [step, rev_take _ _ _ hab (by omega), rev_drop _ _ _ _ hab (by omega) (by omega)]
          rw [List.map_append, hacc]; simp
        by_cases hlt : a < b
        · rw [if_pos hlt]; exact hgoal
        · have hba : b = a := by omega
          subst hba
          rw [if_neg hlt]
          rw [rev_same _ _ (by omega)] at hgoal
          exact hgoal
    · have hbe : b = l.length := by omega
      have e : endOf l v b = b := by rw [endOf, if_neg hb]
      rw [e, List.drop_of_length_le (by omega)]
      simp only [List.zip_nil_left, swp]
      rw [if_pos (by omega), pass, if_neg (by omega)]
      unfold rev
      rw [List.drop_of_length_le (i := b) (by omega), List.append_nil, hacc]

theorem pass_all (l : List Int) (v : Int) (out : List Int) (ho : out.length = l.length) : pass l v 0 out = (swp v [] (l.zip out)).map Prod.snd := by
  by_cases h : 0 < l.length
  · rw [pass, if_pos h]
    have := pass_swp l v _ 0 0 out [] (Nat.le_refl _) (Nat.le_refl _) h (by omega) ho (by simp)
    simpa using this
  · obtain rfl : l = [] := List.length_eq_zero_iff.mp (by omega)
    obtain rfl : out = [] := List.length_eq_zero_iff.mp (by simpa using ho)
    rw [pass]; simp [swp]

theorem downs_dn (l : List Int) : ∀ (v : Nat) (out : List Int), out.length = l.length → downs l v out = (dn v (l.zip out)).map Prod.snd
  | 0, out, h => by
    simp only [downs, dn]
    rw [List.map_snd_zip (by omega)]
  | v + 1, out, h => by
    simp only [downs, dn]
    rw [downs_dn l v _ (by rw [pass_length _ _ _ _ h]; exact h), pass_all _ _ _ h]
    have hz := swp_zip (v := (v : Int) + 1) (l.zip out) [] (fun x hx => by cases hx)
    rw [List.map_nil, List.reverse_nil, List.nil_append, List.map_fst_zip (by omega)] at hz
    exact (dn_rw v (by omega) hz).snd

/-! ### Whole pieces turned round -/

def fl {α : Type} (xs : List (Int × List α)) : List (Int × α) := xs.flatMap fun p => p.2.map fun c => (p.1, c)
def swpT {α : Type} (v : Int) : List (Int × List α) → List (Int × List α) → List (Int × List α)
  | acc, [] => acc
  | acc, x :: xs => if v ≤ x.1 then swpT v ((x.1, x.2.reverse) :: acc) xs else acc ++ x :: swpT v [] xs
theorem swp_high {α : Type} {v n : Int} (hv : v ≤ n) : ∀ (cs : List α) (A rest : List (Int × α)), swp v A (cs.map (fun c => (n, c)) ++ rest) = swp v ((cs.reverse.map fun c => (n, c)) ++ A) rest
  | [], A, rest => rfl
  | c :: cs, A, rest => by
    simp only [List.map_cons, List.cons_append, swp, if_pos hv]
    rw [swp_high hv cs]
    simp
theorem swp_low {α : Type} {v n : Int} (hv : ¬ v ≤ n) : ∀ (cs : List α) (rest : List (Int × α)), swp v [] (cs.map (fun c => (n, c)) ++ rest) = cs.map (fun c => (n, c)) ++ swp v [] rest
  | [], rest => rfl
  | c :: cs, rest => by
    simp only [List.map_cons, List.cons_append, swp, if_neg hv]
    rw [swp_low hv cs]; rfl
theorem fl_cons {α : Type} (x : Int × List α) (xs : List (Int × List α)) : fl (x :: xs) = (x.2.map fun c => (x.1, c)) ++ fl xs := by simp [fl]
theorem fl_append {α : Type} (xs ys : List (Int × List α)) : fl (xs ++ ys) = fl xs ++ fl ys := by simp [fl]
theorem swp_fl {α : Type} {v : Int} : ∀ (xs acc : List (Int × List α)), (∀ x ∈ xs, x.2 ≠ []) → swp v (fl acc) (fl xs) = fl (swpT v acc xs)
  | [], acc, _ => rfl
  | x :: xs, acc, h => by
    have h2 : ∀ y ∈ xs, y.2 ≠ [] := fun y hy => h y (List.mem_cons_of_mem _ hy)
    rw [fl_cons]
    simp only [swpT]
    by_cases c : v ≤ x.1
    · rw [if_pos c, swp_high c, ← swp_fl xs _ h2, fl_cons]
    · rw [if_neg c, fl_append, fl_cons]
      have e := swp_fl (v := v) xs [] h2
      obtain ⟨d, ds, hd⟩ : ∃ d ds, x.2 = d :: ds := by
        cases hx : x.2 with
        | nil => exact absurd hx (h x List.mem_cons_self)
        | cons d ds => exact ⟨d, ds, rfl⟩
      rw [hd]
      simp only [List.map_cons, List.cons_append, swp, if_neg c]
      rw [swp_low c]
      have e0 : fl ([] : List (Int × List α)) = [] := rfl
      rw [e0] at e
      rw [e]

section
variable {κ α : Type} (cs : κ → List α)
/-- A piece, as often turned round as its level stands above v. -/
def turnD (v : Nat) (x : Int × κ) : Int × List α := (x.1, if (x.1 - v).toNat % 2 = 1 then (cs x.2).reverse else cs x.2)
theorem swpT_turn {v : Nat} : ∀ (xs acc : List (Int × κ)), swpT ((v : Int) + 1) (acc.map (turnD cs v)) (xs.map (turnD cs (v + 1))) = (swp ((v : Int) + 1) acc xs).map (turnD cs v)
  | [], acc => rfl
  | x :: xs, acc => by
    simp only [List.map_cons, swpT, swp]
    by_cases c : (v : Int) + 1 ≤ x.1
    · have c' : (v : Int) + 1 ≤ (turnD cs (v + 1) x).1 := c
      rw [if_pos c, if_pos c', ← swpT_turn xs (x :: acc)]
      congr 1
      rw [List.map_cons]
      congr 1
      unfold turnD
      congr 1
      have e : (x.1 - (v : Nat)).toNat = (x.1 - ((v + 1 : Nat) : Int)).toNat + 1 := by omega
      rw [e]
      by_cases h : (x.1 - ((v + 1 : Nat) : Int)).toNat % 2 = 1
      · rw [if_pos h, if_neg (by omega), List.reverse_reverse]
      · rw [if_neg h, if_pos (by omega)]
    · have c' : ¬ (v : Int) + 1 ≤ (turnD cs (v + 1) x).1 := c
      rw [if_neg c, if_neg c', List.map_append, List.map_cons]
      have e : turnD cs (v + 1) x = turnD cs v x := by
        unfold turnD
        rw [show (x.1 - ((v + 1 : Nat) : Int)).toNat = 0 by omega, show (x.1 - (v : Nat)).toNat = 0 by omega]
      have e2 := swpT_turn (v := v) xs []
      rw [List.map_nil] at e2
      rw [e, e2]
theorem dn_fl : ∀ (v : Nat) (xs : List (Int × κ)), (∀ x ∈ xs, cs x.2 ≠ []) → dn v (fl (xs.map (turnD cs v))) = fl ((dn v xs).map (turnD cs 0))
  | 0, xs, _ => rfl
  | v + 1, xs, h => by
    simp only [dn]
    have e := swp_fl (v := (v : Int) + 1) (xs.map (turnD cs (v + 1))) [] (fun y hy => by
      obtain ⟨x, hx, rfl⟩ := List.mem_map.mp hy
      unfold turnD
      have := h x hx
      split
      · simpa using this
      · exact this)
    have e0 : fl ([] : List (Int × List α)) = [] := rfl
    rw [e0] at e
    have e2 := swpT_turn cs (v := v) xs []
    rw [List.map_nil] at e2
    rw [e, e2]
    exact dn_fl v _ fun x hx => h x (by have := (swp_perm xs []).mem_iff.mp hx; simpa using this)
end
end Go.Ab

namespace Go.Proofs.Ythkklpegjcnjoaa
open Go.Ab
set_option linter.unusedVariables false
set_option linter.unusedSimpArgs false

def ascR (r : RunE) : List Int := (List.range (r.t - r.f).toNat).map fun i : Nat => r.f + (i : Int)
def runChars (r : RunE) : List Int := if r.l.tmod 2 = 0 then ascR r else (ascR r).reverse
def runAt (R : List RunE) (k : Int) : RunE := R.getD k.toNat ⟨0, 0, 0, 0⟩

theorem take_range {β : Type} {Z : List β} {g : Nat → β} : ∀ (d f : Nat), (∀ j, f ≤ j → j < f + d → Z[j]? = some (g j)) → Z.take (f + d) = Z.take f ++ (List.range d).map fun i => g (f + i)
  | 0, f, _ => by simp
  | d + 1, f, h => by
    rw [← Nat.add_assoc, List.take_add_one, take_range d f (fun j a b => h j a (by omega)), h (f + d) (by omega) (by omega), List.range_succ, List.map_append, List.append_assoc]
    rfl

theorem zip_runs {L S : List Int} {R : List RunE} (h : CovOk L S L.length R) (hb : ∀ i : Int, 0 ≤ i → i < L.length → 0 ≤ rd L i ∧ rd L i ≤ 126) :
    ∀ k, k ≤ R.length → ((L.map cl).zip (iota L.length)).take (endT R k).toNat = (R.take k).flatMap fun r => (ascR r).map fun c => (r.l, c)
  | 0, _ => by simp [endT]
  | k + 1, hk => by
    have hkR : k < R.length := by omega
    have hst := h.st k hkR
    have hfr := h.from k hkR
    have ih := zip_runs h hb k (by omega)
    have e1 : endT R (k + 1) = R[k].t := by simp only [endT, getD_run hkR]
    rw [e1, show R[k].t.toNat = (endT R k).toNat + (R[k].t - R[k].f).toNat by omega]
    rw [take_range (g := fun j => (R[k].l, (j : Int))) _ _ (fun j a b => ?_), ih, List.take_add_one, List.getElem?_eq_getElem hkR, List.flatMap_append]
    · congr 1
      simp only [Option.toList_some, List.flatMap_cons, List.flatMap_nil, List.append_nil, ascR, List.map_map]
      refine List.map_congr_left fun i hi => ?_
      simp only [Function.comp]
      congr 1
      omega
    · have hj : j < L.length := by omega
      have hl := hst.2.2.2 (j : Int) (by omega) (by omega)
      have hbj := hb (j : Int) (by omega) (by omega)
      rw [List.getElem?_zip_eq_some]
      refine ⟨?_, ?_⟩
      · rw [List.getElem?_map, List.getElem?_eq_getElem hj]
        have e : L[j] = rd L (j : Int) := by unfold rd; rw [Int.toNat_natCast, List.getD_eq_getElem?_getD, List.getElem?_eq_getElem hj]; rfl
        show some (cl L[j]) = some R[k].l
        rw [e, ← hl]
        congr 1
        unfold cl
        rw [if_neg (show ¬ rd L (j : Int) < 0 by omega), if_neg (by omega)]
      · unfold iota
        rw [List.getElem?_map, List.getElem?_range hj]; rfl

theorem cl_same {x : Int} (h : 0 ≤ x ∧ x ≤ 126) : cl x = x := by
  unfold cl
  rw [if_neg (show ¬ x < 0 by omega), if_neg (by omega)]

set_option maxHeartbeats 1000000 in
/-- The runs from left to right, each from left to right: the characters from left to right. -/
theorem vis_runs {L S : List Int} {R : List RunE} (h : CovOk L S L.length R) (hb : ∀ i : Int, 0 ≤ i → i < L.length → 0 ≤ rd L i ∧ rd L i ≤ 126) :
    (visM (R.map RunE.l)).flatMap (fun k => runChars (runAt R k)) = visM L := by
  have hl : ∀ k (hk : k < R.length), 0 ≤ R[k].l ∧ R[k].l ≤ 126 := fun k hk => by
    have hst := h.st k hk
    rw [← hst.2.2.2 R[k].f (by omega) (by omega)]
    exact hb _ (by omega) (by omega)
  obtain ⟨cs, hcs⟩ : ∃ cs : Int → List Int, ∀ k, cs k = ascR (runAt R k) := ⟨_, fun _ => rfl⟩
  obtain ⟨N, hN⟩ : ∃ N : Nat, N = 126 := ⟨_, rfl⟩
  have hxs : ∀ x ∈ ((R.map RunE.l).map cl).zip (iota R.length), ∃ k, ∃ hk : k < R.length, x = (R[k].l, (k : Int)) := fun x hx => by
    obtain ⟨k, hk1⟩ := List.mem_iff_getElem?.mp hx
    rw [List.getElem?_zip_eq_some] at hk1
    obtain ⟨h1, h2⟩ := hk1
    unfold iota at h2
    rw [List.getElem?_map] at h2
    have hk : k < R.length := by
      cases hr : (List.range R.length)[k]? with
      | none => rw [hr] at h2; cases h2
      | some y => have := (List.getElem?_eq_some_iff.mp hr).1; simpa using this
    rw [List.getElem?_range hk] at h2
    rw [List.getElem?_map, List.getElem?_map, List.getElem?_eq_getElem hk] at h1
    refine ⟨k, hk, ?_⟩
    have e1 : cl R[k].l = x.1 := Option.some.inj h1
    have e2 : (k : Int) = x.2 := Option.some.inj h2
    rw [cl_same (hl k hk)] at e1
    rw [e1, e2]
  have hat : ∀ k (hk : k < R.length), runAt R (k : Int) = R[k] := fun k hk => by unfold runAt; rw [Int.toNat_natCast, List.getD_eq_getElem?_getD, List.getElem?_eq_getElem hk]; rfl
  have hne : ∀ x ∈ ((R.map RunE.l).map cl).zip (iota R.length), cs x.2 ≠ [] := fun x hx => by
    obtain ⟨k, hk, rfl⟩ := hxs x hx
    show cs (k : Int) ≠ []
    rw [hcs, hat k hk]
    have := (h.st k hk).1
    unfold ascR
    intro e
    have := congrArg List.length e
    simp at this; omega
  have hfl : fl ((((R.map RunE.l).map cl).zip (iota R.length)).map (turnD cs N)) = (L.map cl).zip (iota L.length) := by
    have h1 := zip_runs h hb R.length (Nat.le_refl _)
    rw [h.end, List.take_length, List.take_of_length_le (by simp [iota_length])] at h1
    rw [h1]
    unfold fl
    have e : ((R.map RunE.l).map cl).zip (iota R.length) = (List.range R.length).map fun k : Nat => ((runAt R (k : Int)).l, (k : Int)) := by
      apply List.ext_getElem?
      intro k
      by_cases hk : k < R.length
      · rw [List.getElem?_map, List.getElem?_range hk]
        refine List.getElem?_zip_eq_some.mpr ⟨?_, ?_⟩
        · rw [List.getElem?_map, List.getElem?_map, List.getElem?_eq_getElem hk]
          show some (cl R[k].l) = some (runAt R (k : Int)).l
          rw [cl_same (hl k hk), hat k hk]
        · unfold iota
          rw [List.getElem?_map, List.getElem?_range hk]; rfl
      · rw [List.getElem?_eq_none (by simp [iota_length]; omega), List.getElem?_eq_none (by simp; omega)]
    rw [e, List.map_map, List.flatMap_map]
    have e2 : R = (List.range R.length).map fun k : Nat => runAt R (k : Int) := by
      apply List.ext_getElem?
      intro k
      by_cases hk : k < R.length
      · rw [List.getElem?_map, List.getElem?_range hk, List.getElem?_eq_getElem hk]
        show some R[k] = some (runAt R (k : Int))
        rw [hat k hk]
      · rw [List.getElem?_eq_none (by omega), List.getElem?_eq_none (by simp; omega)]
    conv => rhs; rw [e2, List.flatMap_map]
    rw [List.flatMap_def, List.flatMap_def]
    congr 1
    refine List.map_congr_left fun k hk => ?_
    have hk := List.mem_range.mp hk
    have hb2 := hl k hk
    simp only [Function.comp, turnD]
    rw [hat k hk, if_neg (by rw [show (R[k].l - (N : Int)).toNat = 0 by omega]; decide)]
    rw [hcs, hat k hk]
  have e1 : visM L = downs (L.map cl) N (iota L.length) := by subst hN; rfl
  have e2 : visM (R.map RunE.l) = downs ((R.map RunE.l).map cl) N (iota R.length) := by subst hN; unfold visM; rw [List.length_map]
  have hV := downs_dn (L.map cl) N (iota L.length) (by simp [iota_length])
  have hK := downs_dn ((R.map RunE.l).map cl) N (iota R.length) (by simp [iota_length])
  have hd := dn_fl cs N _ hne
  rw [hfl] at hd
  rw [e1, hV, hd, e2, hK]
  have hmem : ∀ y ∈ dn N (((R.map RunE.l).map cl).zip (iota R.length)), ∃ k, ∃ hk : k < R.length, y = (R[k].l, (k : Int)) := fun y hy => hxs y ((dn_perm _ _).mem_iff.mp hy)
  generalize dn N (((R.map RunE.l).map cl).zip (iota R.length)) = ys at hmem
  unfold fl
  rw [List.flatMap_map, List.map_flatMap, List.flatMap_map, List.flatMap_def, List.flatMap_def]
  congr 1
  refine List.map_congr_left fun y hy => ?_
  obtain ⟨k, hk, rfl⟩ := hmem y hy
  have hb2 := hl k hk
  simp only [turnD, List.map_map]
  have e3 : (Prod.snd ∘ fun c : Int => (R[k].l, c)) = id := rfl
  rw [e3, List.map_id]
  unfold runChars
  rw [hcs, hat k hk]
  have e4 : R[k].l.tmod 2 = R[k].l % 2 := Int.tmod_eq_emod_of_nonneg hb2.1
  rw [e4]
  by_cases hp : R[k].l % 2 = 0
  · rw [if_pos hp, if_neg (by omega)]
  · rw [if_neg hp, if_pos (by omega)]
end Go.Proofs.Ythkklpegjcnjoaa

namespace Go.Proofs.Ythkklpegjcnjoaa
open Go.Ab
variable {X : CallE} {ro : Nat}
set_option maxRecDepth 10000
set_option linter.unusedVariables false
set_option linter.unusedSimpArgs false

theorem slo_src {H : Hp} {v : Value} {sz n : Nat} {vs : List Value} (h : SlO H v sz n vs) (h1 : vs.all oneC = true) : Src Try.prog ro H v sz n vs := by
  rcases h with ⟨rfl, rfl, rfl⟩ | ⟨ν, c, ws, rfl, h2, h3, h4, rfl⟩
  · exact Src.nil
  · refine Src.row h2 (by rw [List.length_take, h3]; exact Nat.min_eq_left (Nat.mul_le_mul_right _ h4)) h1 (fun i v e => ?_)
    rw [Nat.zero_add]
    rw [List.getElem?_take] at e
    split at e
    · exact e
    · cases e
theorem enc4_one (R : List RunE) : (R.flatMap enc4).all oneC = true := by
  rw [List.all_eq_true]
  intro v hv
  obtain ⟨e, _, he⟩ := List.mem_flatMap.mp hv
  simp only [enc4, List.mem_cons, List.not_mem_nil, or_false] at he
  rcases he with rfl | rfl | rfl | rfl <;> rfl
theorem ascR_get {r : RunE} {d : Nat} (h : d < (r.t - r.f).toNat) : (ascR r)[d]? = some (r.f + d) := by unfold ascR; rw [List.getElem?_map, List.getElem?_range h]; rfl
theorem ascR_len (r : RunE) : (ascR r).length = (r.t - r.f).toNat := by unfold ascR; simp
theorem runChars_len (r : RunE) : (runChars r).length = (r.t - r.f).toNat := by
  unfold runChars
  split
  · exact ascR_len r
  · rw [List.length_reverse, ascR_len]
theorem runChars_get {r : RunE} {d : Nat} (h : d < (r.t - r.f).toNat) : (runChars r)[d]? = some (if r.l.tmod 2 = 0 then r.f + d else r.t - 1 - d) := by
  unfold runChars
  split
  · exact ascR_get h
  · rw [List.getElem?_reverse (by rw [ascR_len]; exact h), ascR_len, ascR_get (by omega)]
    congr 1; omega
/-- What has been shown of the runs, and what is left. -/
theorem vis_split (R : List RunE) (K : List Int) (k d : Nat) (hk : k < K.length) :
    (K.take k).flatMap (fun x => runChars (runAt R x)) ++ (runChars (runAt R K[k])).take d ++ ((runChars (runAt R K[k])).drop d ++ (K.drop (k + 1)).flatMap (fun x => runChars (runAt R x))) = K.flatMap (fun x => runChars (runAt R x)) := by
  conv => rhs; rw [← List.take_append_drop k K, List.flatMap_append, List.drop_eq_getElem_cons hk, List.flatMap_cons]
  rw [List.append_assoc, ← List.append_assoc (List.take d _), List.take_append_drop]

theorem visM_mem {L : List Int} {x : Int} (h : x ∈ visM L) : 0 ≤ x ∧ x < L.length := by
  unfold visM at h
  have h2 := (downs_perm (L.map cl) 126 (iota L.length) (by simp [iota_length])).mem_iff.mp h
  unfold iota at h2
  obtain ⟨k, hk, rfl⟩ := List.mem_map.mp h2
  have := List.mem_range.mp hk
  exact ⟨Int.natCast_nonneg _, Int.ofNat_lt.mpr this⟩

set_option maxHeartbeats 4000000 in
theorem visual_bad {Y : Exts} {s : St} {H : Hp} {A : Option Addr} {cap : Nat} {C : List Int} {b : Int} (hX : ExtOk X ro Y) (hM : Models ro s H) (hsrc : ∀ H' : Hp, (∀ ν o, H ν = some o → H' ν = some o) → Src Try.prog ro H' (.slice A C.length cap) 1 C.length (C.map (.int .i64))) (hbig : C.length * 8 ≤ 140737488351232) (hb : levelsBad C.length b ≠ 0) :
    Sp X Try.prog ro 12 [.slice A C.length cap, .int .i64 b] s fun v H' => v = .bool true := by
  have hX0 := hX.own
  refine Sp.of_body (hX.own _ _ _ (by decide) (by decide) (by decide) (by decide)) Try.func12 rfl Try.ntmps12 (by simp) ?_
  refine WC.seq (WC.region ?_)
  refine asO ?_
  refine WO.nil ?_
  refine WC.seq (WC.seq (WC.region ?_))
  refine cO ?_
  refine SV.callM rfl rfl (hX.alive _ _ hM) ?_
  rintro v s1 H1 hn1 hM1 ⟨rfl, rfl⟩
  refine cO (SV.notT rfl (by rfl) ?_)
  refine WO.nil ?_
  refine WC.condF rfl (by rfl) (WC.skip (WC.seq ?_))
  refine WC.region ?_
  refine cO (SV.buildSliceM (by assumption) rfl rfl (fun a3_0 s3_0 hf3_0 hne3_0 hn3_0 hM3_0 => ?_))
  refine mvO ?_
  refine cO ?_
  refine SV.appendM (t := 23) (u := 23) (e := 3) (e' := 3) (sz := 1) (sz' := 1) (bytes := 8) (z := [.int .i64 0]) (n := 0) (m := C.length) (vs := []) (xs := C.map (.int .i64)) rfl (by assumption) rfl rfl (.inr ⟨a3_0, 0, [], rfl, Hp.up_same, rfl, Nat.le_refl _, rfl⟩)
    (hsrc _ (fun ν o e => Hp.up_ne (hne3_0 _ _ ((fun _ _ e => e) ν o e)) ((fun _ _ e => e) ν o e))) rfl (by omega) (fun v4 s4 H4 hn4 hM4 hv4 hk4 hnew4 hex4 => ?_)
  obtain ⟨a4, rfl, ha4, hkp4⟩ := app_fresh hne3_0 rfl hk4 hnew4 hex4
  clear hv4 hk4 hnew4 hex4 hM3_0
  refine mvO ?_
  refine cO ?_
  refine SV.callM rfl rfl (split_no hX hM4 ha4 hb) ?_
  rintro v s5 H5 hn5 hM5 ⟨rfl, rfl⟩
  have hb2 : decide (levelsBad C.length b ≠ 0) = true := decide_eq_true hb
  generalize levelsBad C.length b = bad at hb2 ⊢
  refine mvO ?_
  refine cO (SV.extract rfl rfl ?_)
  refine cO (SV.extract rfl rfl ?_)
  refine asO ?_
  refine asO ?_
  refine WO.nil ?_
  refine WC.seq (WC.seq (WC.region ?_))
  refine mvO ?_
  refine cO (SV.neqI rfl rfl ?_)
  refine WO.nil ?_
  refine WC.condT rfl (by assumption) (WC.seq ?_)
  refine WC.region ?_
  refine mvO ?_
  refine cO (SV.len rfl rfl ?_)
  refine cO (SV.eqlI rfl rfl ?_)
  refine asO ?_
  refine WO.nil ?_
  refine WC.ret ?_
  exact fin_one (e := .ret) (v := .bool _) rfl trivial rfl (by omega) hM5 (by rfl)

set_option maxHeartbeats 8000000 in
theorem visual_good {Y : Exts} {s : St} {H : Hp} {A : Option Addr} {cap : Nat} {C : List Int} {b : Int} (hX : ExtOk X ro Y) (hM : Models ro s H) (hsrc : ∀ H' : Hp, (∀ ν o, H ν = some o → H' ν = some o) → Src Try.prog ro H' (.slice A C.length cap) 1 C.length (C.map (.int .i64))) (hb : levelsBad C.length b = 0)
    (hlev : ∀ i : Int, 0 ≤ i → i < C.length → 0 ≤ rd (levelsM Y C b) i ∧ rd (levelsM Y C b) i ≤ 126) :
    Sp X Try.prog ro 12 [.slice A C.length cap, .int .i64 b] s fun v H' => v = .bool true := by
  have hX0 := hX.own
  have hbn : (-1 ≤ b ∧ b ≤ 1) ∧ C.length ≤ 16384 := by
    unfold levelsBad at hb
    split at hb
    · cases hb
    · split at hb
      · cases hb
      · omega
  refine Sp.of_body (hX.own _ _ _ (by decide) (by decide) (by decide) (by decide)) Try.func12 rfl Try.ntmps12 (by simp) ?_
  refine WC.seq (WC.region ?_)
  refine asO ?_
  refine WO.nil ?_
  refine WC.seq (WC.seq (WC.region ?_))
  refine cO ?_
  refine SV.callM rfl rfl (hX.alive _ _ hM) ?_
  rintro v s1 H1 hn1 hM1 ⟨rfl, rfl⟩
  refine cO (SV.notT rfl (by rfl) ?_)
  refine WO.nil ?_
  refine WC.condF rfl (by rfl) (WC.skip (WC.seq ?_))
  refine WC.region ?_
  refine cO (SV.buildSliceM (by assumption) rfl rfl (fun a3_0 s3_0 hf3_0 hne3_0 hn3_0 hM3_0 => ?_))
  refine mvO ?_
  refine cO ?_
  refine SV.appendM (t := 23) (u := 23) (e := 3) (e' := 3) (sz := 1) (sz' := 1) (bytes := 8) (z := [.int .i64 0]) (n := 0) (m := C.length) (vs := []) (xs := C.map (.int .i64)) rfl (by assumption) rfl rfl (.inr ⟨a3_0, 0, [], rfl, Hp.up_same, rfl, Nat.le_refl _, rfl⟩)
    (hsrc _ (fun ν o e => Hp.up_ne (hne3_0 _ _ ((fun _ _ e => e) ν o e)) ((fun _ _ e => e) ν o e))) rfl (by omega) (fun v4 s4 H4 hn4 hM4 hv4 hk4 hnew4 hex4 => ?_)
  obtain ⟨a4, rfl, ha4, hkp4⟩ := app_fresh hne3_0 rfl hk4 hnew4 hex4
  clear hv4 hk4 hnew4 hex4 hM3_0
  refine mvO ?_
  refine cO ?_
  refine SV.callM rfl rfl (split_sp hX hM4 ha4 hb) ?_
  rintro v s5 H5 hn5 hM5 ⟨w, rfl, hkp5, hsl5⟩
  have hcov := split_cov (levelsM Y C b) (scriptsM Y C) C.length
  generalize splitM (levelsM Y C b) (scriptsM Y C) C.length 0 [] = R at hsl5 hcov
  have hkp6 : ∀ ν o, H1 ν = some o → H5 ν = some o := fun ν o e => (hkp5 ν o (hkp4 ν o e).1).1
  clear hM4 hkp4 hkp5
  refine mvO ?_
  refine cO (SV.extract rfl rfl ?_)
  refine cO (SV.extract rfl rfl ?_)
  refine cO (SV.assign ?_)
  refine asO ?_
  refine WO.nil ?_
  refine WC.seq (WC.seq (WC.region ?_))
  refine mvO ?_
  refine cO (SV.neqI rfl rfl ?_)
  refine WO.nil ?_
  refine WC.condF rfl (by rfl) (WC.skip (WC.seq ?_))
  refine WC.region ?_
  refine cO (SV.buildSliceM (by assumption) rfl rfl (fun a6_0 s6_0 hf6_0 hne6_0 hn6_0 hM6_0 => ?_))
  refine mvO ?_
  refine cO ?_
  refine SV.appendM (t := 23) (u := 23) (e := 3) (e' := 3) (sz := 1) (sz' := 1) (bytes := 8) (z := [.int .i64 0]) (n := 0) (m := C.length) (vs := []) (xs := C.map (.int .i64)) rfl (by assumption) rfl rfl (.inr ⟨a6_0, 0, [], rfl, Hp.up_same, rfl, Nat.le_refl _, rfl⟩)
    (hsrc _ (fun ν o e => Hp.up_ne (hne6_0 _ _ (hkp6 ν o e)) (hkp6 ν o e))) rfl (by omega) (fun v4 s4 H4 hn4 hM4 hv4 hk4 hnew4 hex4 => ?_)
  obtain ⟨a4, rfl, ha4, hkp4⟩ := app_fresh hne6_0 rfl hk4 hnew4 hex4
  clear hv4 hk4 hnew4 hex4 hM6_0
  refine mvO ?_
  refine cO ?_
  refine SV.callM rfl rfl (levels_sp hX hM4 ha4 hbn.1 hbn.2) ?_
  rintro v s6 H6 hn6 hM6 ⟨l, cl, rfl, hkp7, hl6, hLl⟩
  have hsl6 : SlO H6 w 4 R.length (R.flatMap enc4) := SlO.keep hsl5 fun ν o _ e => (hkp7 _ _ (hkp4 ν o e).1).1
  generalize levelsM Y C b = L at hcov hl6 hLl hlev
  generalize scriptsM Y C = S at hcov
  rw [← hLl] at hcov hlev
  have hvis := vis_runs hcov hlev
  have hRl := hcov.len
  clear hsl5 hkp4 hkp7 hM4
  refine mvO ?_
  refine cO (SV.extract rfl rfl ?_)
  refine cO (SV.extract rfl rfl ?_)
  refine asO ?_
  refine asO ?_
  refine WO.nil ?_
  refine WC.seq (WC.region ?_)
  refine cO (SV.buildSliceM (by assumption) rfl rfl (fun a7_0 s7_0 hf7_0 hne7_0 hn7_0 hM7_0 => ?_))
  refine cO (SV.move ?_)
  refine cO ?_
  have hwf : ∀ {ν : Nat}, (∀ μ o, H6 μ = some o → μ ≠ ν) → baseV w ≠ some ν := fun h e => by obtain ⟨o, ho⟩ := hsl6.base_some e; exact h _ _ ho rfl
  refine SV.appendM (t := 40) (u := 40) (e := 48) (e' := 48) (sz := 4) (sz' := 4) (bytes := 32) (z := [.int .i64 0, .int .i64 0, .int .i64 0, .int .i64 0]) (n := 0) (m := R.length) (vs := []) (xs := R.flatMap enc4) rfl (by assumption) rfl rfl (.inr ⟨a7_0, 0, [], rfl, Hp.up_same, rfl, Nat.le_refl _, rfl⟩)
    (slo_src (hsl6.up (hwf hne7_0)) (enc4_one R)) rfl (by omega) (fun v8 s8 H8 hn8 hM8 hv8 hk8 hnew8 hex8 => ?_)
  rw [Nat.zero_add, List.nil_append] at hv8
  have hkp8 : ∀ ν o, H6 ν = some o → H8 ν = some o := fun ν o e => hk8 ν o (Hp.up_ne (hne7_0 _ _ e) e) (fun h => by cases h; exact hne7_0 _ _ e rfl)
  clear hex8 hnew8 hk8
  refine cO ?_
  refine SV.callM rfl rfl (visual_sp hX0 hM8 hv8 rfl (by omega)) ?_
  rintro v s9 H9 hn9 hM9 ⟨a9, rfl, ha9, hkp9⟩
  have hKl : (visM (R.map RunE.l)).length = R.length := by rw [visM_length, List.length_map]
  have hKm : ∀ x ∈ visM (R.map RunE.l), 0 ≤ x ∧ x < R.length := fun x hx => by have := visM_mem hx; rw [List.length_map] at this; exact this
  generalize hKK : visM (R.map RunE.l) = K at ha9 hKl hKm hvis
  refine asO ?_
  refine WO.nil ?_
  refine WC.seq (WC.seq (WC.region ?_))
  refine mvO ?_
  refine cO (SV.move ?_)
  refine cO ?_
  have hsl9 : SlO H9 w 4 R.length (R.flatMap enc4) := SlO.keep hsl6 fun ν o _ e => (hkp9 ν o (hkp8 ν o e)).1
  refine SV.callM rfl rfl (visual14_sp hX0 hM9 hsl9 rfl (by omega)) ?_
  rintro v s10 H10 hn10 hM10 ⟨a10, rfl, ha10, hkp10⟩
  rw [hKK] at ha10
  refine cO ?_
  refine SV.callM rfl rfl (same_sp (L := K) hX0 hM10 (SlO.ofRow (hkp10 _ _ ha9).1 (by rw [List.length_map, hKl, Nat.mul_one])) (SlO.ofRow ha10 (by rw [List.length_map, hKl, Nat.mul_one])) hKl (by omega)) ?_
  rintro v s11 H11 hn11 hM11 ⟨rfl, rfl⟩
  have hkpA : ∀ ν o, H6 ν = some o → H11 ν = some o := fun ν o e => (hkp10 ν o (hkp9 ν o (hkp8 ν o e)).1).1
  have hslA : SlO H11 w 4 R.length (R.flatMap enc4) := SlO.keep hsl6 fun ν o _ e => hkpA ν o e
  have hlA := hkpA _ _ hl6
  have haA := (hkp10 _ _ ha9).1
  clear hkp9 hkp10 ha10 hsl9 hv8 hkp8 hM9 hM8 hM7_0
  refine cO (SV.notT rfl (by rfl) ?_)
  refine WO.nil ?_
  refine WC.condF rfl (by rfl) (WC.skip (WC.seq ?_))
  refine WC.region ?_
  refine cO (SV.buildSliceM (by assumption) rfl rfl (fun a10_0 s10_0 hf10_0 hne10_0 hn10_0 hM10_0 => ?_))
  refine asO ?_
  refine WO.nil ?_
  refine WC.seq (WC.seq (WC.region ?_))
  refine mvO ?_
  refine cO (SV.len rfl rfl ?_)
  refine mvO ?_
  refine WO.nil ?_
  refine WC.block ?_
  refine WC.loop (D := Nat × Nat) (fun x => [(5, w), (7, .slice (some ⟨l, 0, none⟩) C.length cl), (10, .slice (some ⟨x.2, 0, none⟩) ((K.take x.1).flatMap fun y => runChars (runAt R y)).length ((K.take x.1).flatMap fun y => runChars (runAt R y)).length), (47, .slice (some ⟨a9, 0, none⟩) R.length R.length), (48, .int .i64 R.length), (49, .int .i64 x.1)])
    (fun x s1 => s.next ≤ s1.next ∧ x.1 ≤ R.length ∧ ∃ H', Models ro s1 H' ∧ H' x.2 = some (.row 1 (((K.take x.1).flatMap fun y => runChars (runAt R y)).map (.int .i64))) ∧ ∀ ν o, H11 ν = some o → H' ν = some o ∧ ν ≠ x.2)
    (fun x => R.length - x.1) (0, a10_0) ?_ ⟨by omega, by dsimp only; omega, _, hM10_0, Hp.up_same, fun ν o e => ⟨Hp.up_ne (hne10_0 _ _ e) e, hne10_0 _ _ e⟩⟩ ?_
  · exact ⟨rfl, rfl, rfl, rfl, rfl, rfl, trivial⟩
  rintro ⟨k, ao⟩ g7 s7 ⟨hn7, hk, H7, hM7, ho7, hkp7⟩
  dsimp only at hn7 hk hM7 ho7 hkp7 ⊢
  have ha7 := (hkp7 _ _ haA).1
  refine WC.seq (WC.region ?_)
  refine cO (SV.lss rfl rfl ?_)
  refine WO.nil ?_
  refine WC.seq ?_
  refine WC.condD rfl (fun hlt hltb => ?_) (fun hlt hltb => ?_)
  · have hkK : k < K.length := by omega
    have hx := hKm _ (List.getElem_mem hkK)
    have hrk : rd K k = K[k] := by unfold rd; rw [Int.toNat_natCast, List.getD_eq_getElem?_getD, List.getElem?_eq_getElem hkK]; rfl
    refine WC.skip (WC.seq (WC.block (WC.seq (WC.region ?_))))
    refine cO (SV.indexAddr rfl rfl (by omega) ?_)
    refine cO (ldI ?_)
    refine asO ?_
    refine WO.nil ?_
    rw [hrk]
    have hsplit := fun d => vis_split R K k d hkK
    have htk1 : (K.take (k + 1)).flatMap (fun y => runChars (runAt R y)) = (K.take k).flatMap (fun y => runChars (runAt R y)) ++ runChars (runAt R K[k]) := by
      rw [List.take_add_one, List.getElem?_eq_getElem hkK, List.flatMap_append]; simp
    generalize hx0 : K[k] = x at hx hsplit htk1
    have hxR : x.toNat < R.length := by omega
    have hrx : R[x.toNat] = runAt R x := by unfold runAt; rw [List.getD_eq_getElem?_getD, List.getElem?_eq_getElem hxR]; rfl
    have hst := hcov.st _ hxR
    have hdx0 : decide (x < 0) = false := decide_eq_false (by omega)
    have hdx1 : decide ((R.length : Int) ≤ x) = false := decide_eq_false (by omega)
    obtain ⟨ν, cv, ws, rfl, hν, hwl, hnc, htk, hat⟩ := hslA.at enc4_len rfl (by omega)
    have hwr := hat _ hxR
    rw [hrx] at hst hwr
    have hlb := hlev (runAt R x).f (by omega) (by omega)
    rw [hst.2.2.2 _ (by omega) (by omega)] at hlb
    generalize hr : runAt R x = r at hst hwr hsplit htk1 hlb
    have hν7 := (hkp7 _ _ hν).1
    have hw0 : ws[0 + x.toNat * 4 + 0]? = some (.int .i64 r.f) := by rw [Nat.zero_add]; exact hwr 0 _ rfl
    have hw1 : ws[0 + x.toNat * 4 + 1]? = some (.int .i64 r.t) := by rw [Nat.zero_add]; exact hwr 1 _ rfl
    have hw2 : ws[0 + x.toNat * 4 + 2]? = some (.int .i64 r.l) := by rw [Nat.zero_add]; exact hwr 2 _ rfl
    have hrl := runChars_len r
    refine WC.seq (WC.seq (WC.region ?_))
    refine mvO ?_
    refine cO (SV.lss rfl rfl ?_)
    refine mvO ?_
    refine gyO (SV.moveV (by constructor) ?_)
    all_goals refine gyO (SV.moveV (by constructor) ?_)
    all_goals refine gyO (SV.len rfl rfl ?_)
    all_goals refine gyO (SV.geq rfl rfl ?_)
    all_goals refine cO (pF ?_)
    all_goals refine WO.nil ?_
    refine WC.condF rfl (by assumption) (WC.skip (WC.seq ?_))
    refine WC.region ?_
    refine mvO ?_
    refine mvO ?_
    refine cO (SV.indexAddr rfl rfl (by omega) ?_)
    refine cO (SV.fieldAddr rfl ?_)
    refine cO (SV.loadM (by assumption) rfl (by assumption) (by assumption) ?_)
    refine asO ?_
    refine WO.nil ?_
    refine WC.block ?_
    have hlen : ∀ d : Nat, d ≤ (r.t - r.f).toNat → ((K.take k).flatMap fun y => runChars (runAt R y)).length + d ≤ C.length := fun d hd => by
      have e := congrArg List.length (hsplit d)
      rw [hvis, visM_length, hLl] at e
      simp only [List.length_append, List.length_take, hrl] at e
      omega
    generalize (K.take k).flatMap (fun y => runChars (runAt R y)) = O at ho7 hsplit htk1 hlen
    refine WC.loop (D := Nat × Nat) (fun y => [(5, .slice (some ⟨ν, 0, none⟩) R.length cv), (7, .slice (some ⟨l, 0, none⟩) C.length cl), (10, .slice (some ⟨y.2, 0, none⟩) (O.length + y.1) (O.length + y.1)), (12, .int .i64 x), (13, .int .i64 (r.f + y.1)), (47, .slice (some ⟨a9, 0, none⟩) R.length R.length), (48, .int .i64 R.length), (49, .int .i64 k)])
      (fun y s1 => s.next ≤ s1.next ∧ y.1 ≤ (r.t - r.f).toNat ∧ ∃ H', Models ro s1 H' ∧ H' y.2 = some (.row 1 ((O ++ (runChars r).take y.1).map (.int .i64))) ∧ ∀ μ o, H11 μ = some o → H' μ = some o ∧ μ ≠ y.2)
      (fun y => (r.t - r.f).toNat - y.1) (0, ao) ?_ ⟨by omega, by dsimp only; omega, H7, hM7, by simpa using ho7, hkp7⟩ ?_
    · refine ⟨rfl, rfl, rfl, rfl, ?_, rfl, rfl, rfl, trivial⟩
      show some (Value.int .i64 r.f) = some (Value.int .i64 (r.f + ((0 : Nat) : Int))); simp
    clear hM7 ho7 hkp7 ha7 hν7
    rintro ⟨d, ai⟩ g8 s8 ⟨hn8, hd, H8, hM8, ho8, hkp8⟩
    dsimp only at hn8 hd hM8 ho8 hkp8 ⊢
    have hν8 := (hkp8 _ _ hν).1
    refine WC.seq (WC.seq (WC.region ?_))
    refine mvO ?_
    refine mvO ?_
    refine mvO ?_
    refine cO (SV.indexAddr rfl rfl (by omega) ?_)
    refine cO (SV.fieldAddr rfl ?_)
    refine cO (SV.loadM (by assumption) rfl (by assumption) (by assumption) ?_)
    refine cO (SV.lss rfl rfl ?_)
    refine WO.nil ?_
    refine WC.condD rfl (fun hlt2 hlt2b => ?_) (fun hlt2 hlt2b => ?_)
    · have hdl : d < (r.t - r.f).toNat := by omega
      have hch := runChars_get hdl
      have hol : (O ++ (runChars r).take d).length = O.length + d := by rw [List.length_append, List.length_take, hrl, Nat.min_eq_left (by omega)]
      have hlen1 := hlen d (by omega)
      have htk2 : O ++ (runChars r).take (d + 1) = (O ++ (runChars r).take d) ++ [if r.l.tmod 2 = 0 then r.f + d else r.t - 1 - d] := by
        rw [List.take_add_one, hch, List.append_assoc]; rfl
      generalize O ++ (runChars r).take d = O8 at ho8 hol htk2
      by_cases hp : r.l.tmod 2 = 0
      · rw [if_pos hp] at htk2
        have hdp : decide (r.l.tmod 2 = 0) = true := decide_eq_true hp
        refine WC.skip (WC.seq (WC.block (WC.seq (WC.region ?_))))
        refine mvO ?_
        refine mvO ?_
        refine cO (SV.indexAddr rfl rfl (by omega) ?_)
        refine cO (SV.fieldAddr rfl ?_)
        refine cO (SV.loadM (by assumption) rfl (by assumption) (by assumption) ?_)
        refine cO (SV.rem rfl rfl (by omega) ?_)
        refine cO (SV.eqlI rfl rfl ?_)
        refine WO.nil ?_
        refine WC.condT rfl (by assumption) ?_
        refine WC.region ?_
        refine mvO ?_
        refine mvO ?_
        refine cO (SV.buildSliceM (by assumption) rfl rfl (fun a20_2 s20_2 hf20_2 hne20_2 hn20_2 hM20_2 => ?_))
        refine cO ?_
        have hM20 : Models ro s20_2 (H8.up a20_2 (.row 1 [.int .i64 (r.f + d)])) := hM20_2
        refine SV.appendM (t := 23) (u := 23) (e := 3) (e' := 3) (sz := 1) (sz' := 1) (bytes := 8) (z := [.int .i64 0]) (n := O.length + d) (m := 1) (vs := O8.map (.int .i64)) (xs := [.int .i64 (r.f + d)]) rfl hM20 rfl rfl (SlO.ofRow (Hp.up_ne (hne20_2 _ _ ho8) ho8) (by rw [List.length_map, hol, Nat.mul_one]))
          (Src.row Hp.up_same rfl rfl (fun j v h => by rw [Nat.zero_add]; exact h)) rfl (by omega) (fun v9 s9 H9 hn9 hM9 hv9 hk9 hnew9 hex9 => ?_)
        obtain ⟨b9, rfl, hb9, hkp9⟩ := app_one ho8 hol hne20_2 hk9 hnew9 hex9
        refine asO ?_
        refine WO.nil ?_
        refine WC.region ?_
        refine mvO ?_
        refine cO (adI ?_)
        refine asO ?_
        refine WO.nil ?_
        refine ⟨rfl, (d + 1, b9), ⟨rfl, rfl, rfl, rfl, ?_, rfl, rfl, rfl, trivial⟩, ⟨by omega, by dsimp only; omega, H9, hM9, by dsimp only; rw [htk2]; exact hb9, fun μ o e => hkp9 _ _ (hkp8 μ o e).1 (hkp8 μ o e).2⟩, by dsimp only; omega⟩
        show some (Value.int .i64 (r.f + d + 1)) = some (Value.int .i64 (r.f + ((d + 1 : Nat) : Int))); rw [show r.f + (d : Int) + 1 = r.f + ((d + 1 : Nat) : Int) by omega]
      · rw [if_neg hp] at htk2
        have hdp : decide (r.l.tmod 2 = 0) = false := decide_eq_false hp
        refine WC.skip (WC.seq (WC.block (WC.seq (WC.region ?_))))
        refine mvO ?_
        refine mvO ?_
        refine cO (SV.indexAddr rfl rfl (by omega) ?_)
        refine cO (SV.fieldAddr rfl ?_)
        refine cO (SV.loadM (by assumption) rfl (by assumption) (by assumption) ?_)
        refine cO (SV.rem rfl rfl (by omega) ?_)
        refine cO (SV.eqlI rfl rfl ?_)
        refine WO.nil ?_
        refine WC.condF rfl (by assumption) ?_
        refine WC.dr [0, 1, 2, 3, 4, 5, 6, 7, 8, 9, 10, 11, 12, 13, 14, 15, 16, 17] ?_
        refine mvD ?_
        refine mvD ?_
        refine mvD ?_
        refine cD (SV.indexAddr rfl rfl (by omega) ?_)
        refine cD (SV.fieldAddr rfl ?_)
        refine cD (SV.loadM (by assumption) rfl (by assumption) (by assumption) ?_)
        refine mvD ?_
        refine mvD ?_
        refine cD (SV.indexAddr rfl rfl (by omega) ?_)
        refine cD (SV.fieldAddr rfl ?_)
        refine cD (SV.loadM (by assumption) rfl (by assumption) (by assumption) ?_)
        refine cD (adI ?_)
        refine cD (sbI ?_)
        refine mvD ?_
        refine cD (sbI ?_)
        refine cD (SV.buildSliceM (by assumption) rfl rfl (fun a21_15 s21_15 hf21_15 hne21_15 hn21_15 hM21_15 => ?_))
        refine cD ?_
        have hM21 : Models ro s21_15 (H8.up a21_15 (.row 1 [.int .i64 (r.f + r.t - 1 - (r.f + d))])) := hM21_15
        refine SV.appendM (t := 23) (u := 23) (e := 3) (e' := 3) (sz := 1) (sz' := 1) (bytes := 8) (z := [.int .i64 0]) (n := O.length + d) (m := 1) (vs := O8.map (.int .i64)) (xs := [.int .i64 (r.f + r.t - 1 - (r.f + d))]) rfl hM21 rfl rfl (SlO.ofRow (Hp.up_ne (hne21_15 _ _ ho8) ho8) (by rw [List.length_map, hol, Nat.mul_one]))
          (Src.row Hp.up_same rfl rfl (fun j v h => by rw [Nat.zero_add]; exact h)) rfl (by omega) (fun v9 s9 H9 hn9 hM9 hv9 hk9 hnew9 hex9 => ?_)
        obtain ⟨b9, rfl, hb9, hkp9⟩ := app_one ho8 hol hne21_15 hk9 hnew9 hex9
        refine asD ?_
        refine WD.nil ?_
        refine WC.region ?_
        refine mvO ?_
        refine cO (adI ?_)
        refine asO ?_
        refine WO.nil ?_
        rw [show r.f + r.t - 1 - (r.f + (d : Int)) = r.t - 1 - d by omega] at hb9
        refine ⟨rfl, (d + 1, b9), ⟨rfl, rfl, rfl, rfl, ?_, rfl, rfl, rfl, trivial⟩, ⟨by omega, by dsimp only; omega, H9, hM9, by dsimp only; rw [htk2]; exact hb9, fun μ o e => hkp9 _ _ (hkp8 μ o e).1 (hkp8 μ o e).2⟩, by dsimp only; omega⟩
        show some (Value.int .i64 (r.f + d + 1)) = some (Value.int .i64 (r.f + ((d + 1 : Nat) : Int))); rw [show r.f + (d : Int) + 1 = r.f + ((d + 1 : Nat) : Int) by omega]
    · have hde : d = (r.t - r.f).toNat := by omega
      have hfull : O ++ (runChars r).take d = O ++ runChars r := by rw [List.take_of_length_le (by rw [hrl, hde]; exact Nat.le_refl _)]
      rw [hfull, ← htk1] at ho8
      have hol2 : O.length + d = ((K.take (k + 1)).flatMap fun y => runChars (runAt R y)).length := by rw [htk1, List.length_append, hrl, hde]
      rw [hol2]
      refine WC.exit ?_
      refine WC.region ?_
      refine cO (adI ?_)
      refine mvO ?_
      refine WO.nil ?_
      exact ⟨rfl, (k + 1, ai), ⟨rfl, rfl, rfl, rfl, rfl, rfl, trivial⟩, ⟨by omega, by dsimp only; omega, H8, hM8, ho8, hkp8⟩, by dsimp only; omega⟩
  · have hke : k = K.length := by omega
    rw [hke, List.take_length, hvis] at ho7 ⊢
    have hvl : (visM L).length = C.length := by rw [visM_length, hLl]
    rw [hvl]
    refine WC.exit (WC.seq ?_)
    refine WC.region ?_
    refine mvO ?_
    refine mvO ?_
    refine cO ?_
    have ho := order_sp (L := L) (cc := cl) hX0 hM7 (hkp7 _ _ hlA).1 (by omega)
    rw [hLl] at ho
    refine SV.callM rfl rfl ho ?_
    rintro v s12 H12 hn12 hM12 ⟨a12, rfl, ha12, hkp12⟩
    refine cO ?_
    refine SV.callM rfl rfl (same_sp (L := visM L) hX0 hM12 (SlO.ofRow (hkp12 _ _ ho7).1 (by rw [List.length_map, hvl, Nat.mul_one])) (SlO.ofRow ha12 (by rw [List.length_map, hvl, Nat.mul_one])) hvl (by omega)) ?_
    rintro v s13 H13 hn13 hM13 ⟨rfl, rfl⟩
    refine asO ?_
    refine WO.nil ?_
    refine WC.ret ?_
    exact fin_one (e := .ret) (v := .bool true) rfl trivial rfl (by omega) hM13 rfl
end Go.Proofs.Ythkklpegjcnjoaa

namespace Go.Proofs.Ythkklpegjcnjoaa
open Go.Ab
set_option linter.unusedVariables false
set_option linter.unusedSimpArgs false

/-! ### A match has its opener's level -/

/-- The levels below the isolates' entries, from the lowest on. -/
def isoB : List Ent3 → List Int
  | [] => []
  | [_] => []
  | a :: b :: l => (if b.2.2 = true then [a.1] else []) ++ isoB (b :: l)
theorem topM_snoc (E : List Ent3) (x : Ent3) : topM (E ++ [x]) = x := by unfold topM; simp
theorem topM_cons (a b : Ent3) (l : List Ent3) : topM (a :: b :: l) = topM (b :: l) := by unfold topM; rw [List.getLast?_cons_cons]
theorem isoB_snoc : ∀ (E : List Ent3) (x : Ent3), E ≠ [] → isoB (E ++ [x]) = isoB E ++ (if x.2.2 = true then [(topM E).1] else [])
  | [], x, h => absurd rfl h
  | [a], x, _ => by simp [isoB, topM]
  | a :: b :: l, x, _ => by
    rw [topM_cons, List.cons_append, List.cons_append, isoB, ← List.cons_append, isoB_snoc (b :: l) x (by simp), isoB, List.append_assoc]
theorem popIso_isoB : ∀ (r : Nat) (E : List Ent3), E.length ≤ r → isoB E ≠ [] → popIso r E ≠ [] ∧ ∃ B, isoB E = B ++ [(topM (popIso r E)).1] ∧ isoB (popIso r E) = B ∧ ∀ e ∈ popIso r E, e ∈ E
  | 0, E, h, h2 => by
    obtain rfl : E = [] := List.length_eq_zero_iff.mp (by omega)
    exact absurd rfl h2
  | r + 1, E, h, h2 => by
    have hE : E ≠ [] := fun e => by subst e; exact h2 rfl
    have hd : E.dropLast ≠ [] := fun e => by
      have := dropLast_snoc hE
      rw [e] at this
      rw [← this] at h2
      exact h2 rfl
    have he := isoB_snoc E.dropLast (topM E) hd
    rw [dropLast_snoc hE] at he
    simp only [popIso]
    by_cases ht : (topM E).2.2 = true
    · rw [if_pos ht] at he ⊢
      exact ⟨hd, isoB E.dropLast, he, rfl, fun e => List.dropLast_subset E (a := e)⟩
    · rw [if_neg ht, List.append_nil] at he
      rw [if_neg ht]
      obtain ⟨h3, B, h4, h5, h6⟩ := popIso_isoB r E.dropLast (by rw [List.length_dropLast]; omega) (by rw [← he]; exact h2)
      exact ⟨h3, B, by rw [he]; exact h4, h5, fun e h => List.dropLast_subset E (h6 e h)⟩

structure LinkI (D : TD) (i : Int) (x : XS) (L Og M : List Int) : Prop where
  ne : x.E ≠ []
  op : 0 ≤ x.op
  is : x.is = (isoB x.E).length
  lv : ∀ e ∈ x.E, 0 ≤ e.1 ∧ e.1 ≤ 125
  og : Og.map (rd L) = isoB x.E ++ List.replicate x.op.toNat (topM x.E).1
  pl : ∀ o ∈ Og, 0 ≤ o ∧ o < i
  bd : ∀ j : Int, 0 ≤ rd L j ∧ rd L j ≤ 125
  lk : ∀ o : Int, 0 ≤ o → o < i → isOpener (rd D.F o) → rd M o < 0 ∨ (0 ≤ rd M o ∧ rd M o < i ∧ rd L (rd M o) = rd L o)

theorem topM_mem {E : List Ent3} (h : E ≠ []) : topM E ∈ E := by
  obtain ⟨hj, e⟩ := top_at h
  rw [← e]; exact List.getElem_mem _
theorem nextM_ge {lv : Int} {odd : Bool} (h : 0 ≤ lv) : 0 ≤ nextM lv odd := by unfold nextM; split <;> omega
theorem rd_neg {L : List Int} {i j x : Int} (h : 0 ≤ i) (hj : j < 0) : rd (L.set i.toNat x) j = if i = 0 then rd (L.set 0 x) 0 else rd L j := by
  unfold rd
  rw [show j.toNat = 0 by omega]
  by_cases e : i = 0
  · rw [if_pos e, e]; rfl
  · rw [if_neg e, List.getD_eq_getElem?_getD, List.getElem?_set, if_neg (by omega), ← List.getD_eq_getElem?_getD]
theorem bd_set {L : List Int} {i x w : Int} (hi : 0 ≤ i) (h : ∀ j : Int, 0 ≤ rd L j ∧ rd L j ≤ w) (hx : 0 ≤ x ∧ x ≤ w) : ∀ j : Int, 0 ≤ rd (L.set i.toNat x) j ∧ rd (L.set i.toNat x) j ≤ w := fun j => by
  unfold rd
  rw [List.getD_eq_getElem?_getD, List.getElem?_set]
  have := h j
  unfold rd at this
  rw [List.getD_eq_getElem?_getD] at this
  split
  · split
    · exact hx
    · have := h 0; rename_i a b; constructor
      · exact Int.le_refl _
      · have := h j; have := (h j).1; have := (h j).2; show (0 : Int) ≤ w; omega
  · exact this
theorem map_rd_set {Og L : List Int} {i x : Int} (h : ∀ o ∈ Og, 0 ≤ o ∧ o < i) (hi : i < L.length) : Og.map (rd (L.set i.toNat x)) = Og.map (rd L) :=
  List.map_congr_left fun o ho => by
    have := h o ho
    rw [rd_set (by omega) (by omega) (by omega), if_neg (by omega)]

/-- A character that opens and closes nothing. -/
theorem LinkI.keep {D : TD} {i : Int} {x : XS} {L Og M : List Int} (h : LinkI D i x L Og M) (h0 : 0 ≤ i) (hno : ¬ isOpener (rd D.F i)) {M' : List Int} (hM : ∀ o : Int, 0 ≤ o → o < i → rd M' o = rd M o) : LinkI D (i + 1) x L Og M' := by
  refine { h with pl := fun o ho => ?_, lk := fun o o0 o1 op => ?_ }
  · have := h.pl o ho; omega
  · by_cases e : o = i
    · subst e; exact absurd op hno
    · rw [hM o o0 (by omega)]
      rcases h.lk o o0 (by omega) op with h1 | h1
      · exact .inl h1
      · exact .inr ⟨h1.1, by omega, h1.2.2⟩
theorem LinkI.set {D : TD} {i : Int} {x : XS} {L Og M : List Int} {v : Int} (h : LinkI D i x L Og M) (h0 : 0 ≤ i) (hi : i < L.length) (hv : 0 ≤ v ∧ v ≤ 125) : LinkI D i x (L.set i.toNat v) Og M := by
  refine { h with og := ?_, bd := bd_set h0 h.bd hv, lk := fun o o0 o1 op => ?_ }
  · rw [map_rd_set h.pl hi]; exact h.og
  · rcases h.lk o o0 o1 op with h1 | h1
    · exact .inl h1
    · refine .inr ⟨h1.1, h1.2.1, ?_⟩
      rw [rd_set h0 h1.1 hi, rd_set h0 o0 hi, if_neg (by omega), if_neg (by omega)]; exact h1.2.2
/-- The stack turns, but nothing of what an open isolate rests on. -/
theorem LinkI.stk {D : TD} {i : Int} {x x' : XS} {L Og M : List Int} (h : LinkI D i x L Og M) (ne : x'.E ≠ []) (op : 0 ≤ x'.op) (is : x'.is = (isoB x'.E).length) (lv : ∀ e ∈ x'.E, 0 ≤ e.1 ∧ e.1 ≤ 125)
    (og : isoB x'.E ++ List.replicate x'.op.toNat (topM x'.E).1 = isoB x.E ++ List.replicate x.op.toNat (topM x.E).1) : LinkI D i x' L Og M :=
  { h with ne := ne, op := op, is := is, lv := lv, og := h.og.trans og.symm }

theorem rd_lastI {Og L : List Int} {B : List Int} {y : Int} (h : Og.map (rd L) = B ++ [y]) : 0 < Og.length ∧ rd L (lastI Og) = y ∧ (Og.take (Og.length - 1)).map (rd L) = B ∧ lastI Og ∈ Og := by
  have hl : Og.length = B.length + 1 := by
    have := congrArg List.length h
    simpa using this
  have hm := lastI_mem (O := Og) (by omega)
  refine ⟨by omega, ?_, ?_, hm⟩
  · have h2 : (Og.map (rd L))[Og.length - 1]? = some y := by rw [h, hl]; simp
    rw [List.getElem?_map, List.getElem?_eq_getElem (by omega)] at h2
    have h3 : rd L Og[Og.length - 1] = y := Option.some.inj h2
    have h4 : lastI Og = Og[Og.length - 1] := by
      unfold lastI rd
      rw [show ((Og.length : Int) - 1).toNat = Og.length - 1 by omega, List.getD_eq_getElem?_getD, List.getElem?_eq_getElem (by omega)]; rfl
    rw [h4]; exact h3
  · rw [List.map_take, h, hl]; simp

theorem LinkI.next {D : TD} {i : Int} {x : XS} {L Og M : List Int} (h : LinkI D i x L Og M) (h0 : 0 ≤ i) (hi : i < L.length) (hM : M.length = L.length) (hb : 0 ≤ D.b ∧ D.b ≤ 1) :
    LinkI D (i + 1) (expX D i x) (expL D i x L) (matchO D.F i Og) (matchS D.F i Og M) := by
  have htop := h.lv _ (topM_mem h.ne)
  have hset1 : ∀ o : Int, 0 ≤ o → o < i → rd (M.set i.toNat (-1)) o = rd M o := fun o o0 o1 => by rw [rd_set h0 o0 (by omega), if_neg (by omega)]
  unfold expX expL expT matchO matchS
  generalize hc : rd D.F i = c
  by_cases c1 : isEmb c
  · have n1 : ¬ isOpener c := by unfold isEmb at c1; unfold isOpener; omega
    have n2 : c ≠ 10 := by unfold isEmb at c1; omega
    have n3 : c ≠ 22 := by unfold isEmb at c1; omega
    have n4 : ¬ (c = 22 ∧ 0 < Og.length) := fun h => n3 h.1
    simp only [if_pos c1, if_neg n1, if_neg n2, if_neg n4]
    have hk := h.keep h0 (by rw [hc]; exact n1) hset1
    split
    · rename_i hp
      have ht := nextM_ge (odd := decide (c = 16 ∨ c = 17)) htop.1
      refine hk.stk (by simp) h.op ?_ ?_ ?_
      · dsimp only; rw [isoB_snoc _ _ h.ne]; simpa using h.is
      · intro e he
        rcases List.mem_append.mp he with he | he
        · exact h.lv e he
        · rw [List.mem_singleton.mp he]; exact ⟨ht, hp.1⟩
      · dsimp only; rw [isoB_snoc _ _ h.ne, hp.2.1]; simp
    · exact hk.stk h.ne h.op h.is h.lv rfl
  by_cases c2 : isOpener c
  · simp only [if_neg c1, if_pos c2, plainL]
    have hs := h.set h0 hi htop
    have e1 : rd (L.set i.toNat (topM x.E).1) i = (topM x.E).1 := by rw [rd_set h0 h0 hi, if_pos rfl]
    have hlk : ∀ o : Int, 0 ≤ o → o < i + 1 → isOpener (rd D.F o) → rd (M.set i.toNat (-1)) o < 0 ∨ (0 ≤ rd (M.set i.toNat (-1)) o ∧ rd (M.set i.toNat (-1)) o < i + 1 ∧ rd (L.set i.toNat (topM x.E).1) (rd (M.set i.toNat (-1)) o) = rd (L.set i.toNat (topM x.E).1) o) := fun o o0 o1 op => by
      by_cases e : o = i
      · left; rw [e, rd_set h0 h0 (by omega), if_pos rfl]; omega
      · rw [hset1 o o0 (by omega)]
        rcases hs.lk o o0 (by omega) op with h1 | h1
        · exact .inl h1
        · exact .inr ⟨h1.1, by omega, h1.2.2⟩
    have hpl : ∀ o ∈ Og ++ [i], 0 ≤ o ∧ o < i + 1 := fun o ho => by
      rcases List.mem_append.mp ho with ho | ho
      · have := h.pl o ho; omega
      · rw [List.mem_singleton.mp ho]; omega
    split
    · rename_i hp
      have ht := nextM_ge (odd := openOdd D i c) htop.1
      refine { ne := by simp, op := h.op, is := ?_, lv := ?_, og := ?_, pl := hpl, bd := hs.bd, lk := hlk }
      · dsimp only; rw [isoB_snoc _ _ h.ne, h.is]; simp
      · intro e he
        rcases List.mem_append.mp he with he | he
        · exact h.lv e he
        · rw [List.mem_singleton.mp he]; exact ⟨ht, hp.1⟩
      · dsimp only
        rw [List.map_append, hs.og, isoB_snoc _ _ h.ne, hp.2.1, List.map_cons, List.map_nil, e1]; simp
    · refine { ne := h.ne, op := by have := h.op; dsimp only; omega, is := h.is, lv := h.lv, og := ?_, pl := hpl, bd := hs.bd, lk := hlk }
      dsimp only
      have hop := h.op
      rw [List.map_append, hs.og, List.map_cons, List.map_nil, e1, show (x.op + 1).toNat = x.op.toNat + 1 by omega, List.replicate_succ', List.append_assoc]
  by_cases c3 : c = 22
  · have n2 : ¬ c = 10 := by omega
    have n5 : ¬ isOpener (rd D.F i) := by rw [hc]; exact c2
    simp only [if_neg c1, if_neg c2, if_pos c3, if_neg n2, plainL, true_and]
    by_cases hp : 0 < x.op
    · -- an opener that found no room
      have hog := h.og
      rw [show x.op.toNat = (x.op - 1).toNat + 1 by omega, List.replicate_succ', ← List.append_assoc] at hog
      obtain ⟨l1, l2, l3, l4⟩ := rd_lastI hog
      have hl := h.pl _ l4
      have hE : shutE x.E x.op x.is = x.E := by unfold shutE; rw [if_pos hp]
      have hO : shutOp x.op = x.op - 1 := by unfold shutOp; rw [if_pos hp]
      have hI : shutIs x.op x.is = x.is := by unfold shutIs; rw [if_pos hp]
      rw [hE, hO, hI, if_pos ⟨c3, l1⟩, if_pos ⟨c3, l1⟩]
      have hs := h.set h0 hi htop
      refine { ne := h.ne, op := by dsimp only; omega, is := h.is, lv := h.lv, og := ?_, pl := fun o ho => by have := h.pl o (List.mem_of_mem_take ho); omega, bd := hs.bd, lk := fun o o0 o1 op => ?_ }
      · rw [map_rd_set (fun o ho => h.pl o (List.mem_of_mem_take ho)) hi]; exact l3
      · by_cases e : o = i
        · subst e; exact absurd op n5
        · rw [rd_set hl.1 o0 (by simp only [List.length_set]; omega)]
          by_cases e2 : o = lastI Og
          · rw [if_pos e2]
            refine .inr ⟨h0, by omega, ?_⟩
            rw [rd_set h0 h0 hi, if_pos rfl, rd_set h0 o0 hi, if_neg e, e2, l2]
          · rw [if_neg e2, rd_set h0 o0 (by simp only [List.length_set]; omega), if_neg e, hset1 o o0 (by omega)]
            rcases hs.lk o o0 (by omega) op with h1 | h1
            · exact .inl h1
            · exact .inr ⟨h1.1, by omega, h1.2.2⟩
    · have hop0 : x.op = 0 := by have := h.op; omega
      by_cases hq : 0 < x.is
      · -- an isolate is shut
        have hne : isoB x.E ≠ [] := fun e => by have := h.is; rw [e] at this; simp at this; omega
        obtain ⟨p1, B, p2, p3, p4⟩ := popIso_isoB x.E.length x.E (Nat.le_refl _) hne
        have hog := h.og
        rw [hop0, show (0 : Int).toNat = 0 from rfl, List.replicate_zero, List.append_nil, p2] at hog
        obtain ⟨l1, l2, l3, l4⟩ := rd_lastI hog
        have hl := h.pl _ l4
        have hE : shutE x.E x.op x.is = popIso x.E.length x.E := by unfold shutE; rw [if_neg hp, if_pos hq]
        have hO : shutOp x.op = x.op := by unfold shutOp; rw [if_neg hp]
        have hI : shutIs x.op x.is = x.is - 1 := by unfold shutIs; rw [if_neg hp, if_pos hq]
        rw [hE, hO, hI, if_pos ⟨c3, l1⟩, if_pos ⟨c3, l1⟩]
        have htop2 := h.lv _ (p4 _ (topM_mem p1))
        have hs := h.set h0 hi htop2
        refine { ne := p1, op := h.op, is := ?_, lv := fun e he => h.lv e (p4 e he), og := ?_, pl := fun o ho => by have := h.pl o (List.mem_of_mem_take ho); omega, bd := hs.bd, lk := fun o o0 o1 op => ?_ }
        · dsimp only
          have := h.is
          rw [p2] at this
          rw [p3]
          simp at this; omega
        · rw [map_rd_set (fun o ho => h.pl o (List.mem_of_mem_take ho)) hi, hop0, show (0 : Int).toNat = 0 from rfl, List.replicate_zero, List.append_nil, p3]; exact l3
        · by_cases e : o = i
          · subst e; exact absurd op n5
          · rw [rd_set hl.1 o0 (by simp only [List.length_set]; omega)]
            by_cases e2 : o = lastI Og
            · rw [if_pos e2]
              refine .inr ⟨h0, by omega, ?_⟩
              rw [rd_set h0 h0 hi, if_pos rfl, rd_set h0 o0 hi, if_neg e, e2, l2]
            · rw [if_neg e2, rd_set h0 o0 (by simp only [List.length_set]; omega), if_neg e, hset1 o o0 (by omega)]
              rcases hs.lk o o0 (by omega) op with h1 | h1
              · exact .inl h1
              · exact .inr ⟨h1.1, by omega, h1.2.2⟩
      · have his : x.is = 0 := by have := h.is; omega
        have hB : isoB x.E = [] := List.length_eq_zero_iff.mp (by have := h.is; omega)
        have hogE : Og = [] := by
          have := h.og
          rw [hB, hop0] at this
          simpa using this
        have hE : shutE x.E x.op x.is = x.E := by unfold shutE; rw [if_neg hp, if_neg hq]
        have hO : shutOp x.op = x.op := by unfold shutOp; rw [if_neg hp]
        have hI : shutIs x.op x.is = x.is := by unfold shutIs; rw [if_neg hp, if_neg hq]
        have nl : ¬ (c = 22 ∧ 0 < Og.length) := by rw [hogE]; simp
        rw [hE, hO, hI, if_neg nl, if_neg nl]
        exact ((h.set h0 hi htop).keep h0 n5 hset1).stk h.ne h.op h.is h.lv rfl
  have n4 : ¬ (c = 22 ∧ 0 < Og.length) := fun h => c3 h.1
  by_cases c4 : c = 18
  · have n2 : ¬ c = 10 := by omega
    simp only [if_neg c1, if_neg c2, if_neg c3, if_pos c4, if_neg n2, if_neg n4]
    have hk := h.keep h0 (by rw [hc]; exact c2) hset1
    split
    · exact hk
    split
    · exact hk.stk h.ne h.op h.is h.lv rfl
    split
    · rename_i hop _ hp
      have hop0 : x.op = 0 := by have := h.op; omega
      have hd : x.E.dropLast ≠ [] := fun e => by have := congrArg List.length e; rw [List.length_dropLast] at this; simp at this; omega
      have e1 := isoB_snoc x.E.dropLast (topM x.E) hd
      rw [dropLast_snoc h.ne, hp.2, if_neg (by decide), List.append_nil] at e1
      refine hk.stk hd h.op (by dsimp only; rw [← e1]; exact h.is) (fun e he => h.lv e (List.dropLast_subset _ he)) ?_
      dsimp only
      rw [hop0, ← e1]; simp
    · exact hk
  by_cases c5 : c = 10
  · simp only [if_neg c1, if_neg c2, if_neg c3, if_neg c4, if_pos c5, plainL]
    have hs := h.set h0 hi (v := D.b) (by omega)
    refine { ne := by simp, op := by dsimp only; omega, is := rfl, lv := fun e he => ?_, og := rfl, pl := fun o ho => (by cases ho), bd := hs.bd, lk := ((hs.keep h0 (by rw [hc]; exact c2) hset1)).lk }
    rw [List.mem_singleton.mp he]; dsimp only; omega
  simp only [if_neg c1, if_neg c2, if_neg c3, if_neg c4, if_neg c5, if_neg n4]
  by_cases c6 : c = 9
  · simp only [if_pos c6]
    exact h.keep h0 (by rw [hc]; exact c2) hset1
  · simp only [if_neg c6, plainL]
    exact (h.set h0 hi htop).keep h0 (by rw [hc]; exact c2) hset1

theorem expM_link {D : TD} (hb : 0 ≤ D.b ∧ D.b ≤ 1) : ∀ (r : Nat) (i : Int) (x : XS) (L N Og M : List Int), LinkI D i x L Og M → 0 ≤ i → i + r = L.length → M.length = L.length →
    ∃ x' Og', LinkI D (i + r) x' (expM D r i x L N).1 Og' (matchM D.F r i Og M)
  | 0, i, x, L, N, Og, M, h, h0, hr, hM => ⟨x, Og, by simpa [expM, matchM] using h⟩
  | r + 1, i, x, L, N, Og, M, h, h0, hr, hM => by
    have hn := h.next h0 (by push_cast at hr; omega) hM hb
    obtain ⟨x', Og', h'⟩ := expM_link hb r (i + 1) _ _ (expN D i x N) _ _ hn (by omega) (by rw [expL_length]; push_cast at hr; omega) (by rw [matchS_length, expL_length]; exact hM)
    refine ⟨x', Og', ?_⟩
    rw [show i + ((r + 1 : Nat) : Int) = i + 1 + (r : Nat) by push_cast; omega]
    exact h'
end Go.Proofs.Ythkklpegjcnjoaa

namespace Go.Proofs.Ythkklpegjcnjoaa
open Go.Ab
set_option linter.unusedVariables false
set_option linter.unusedSimpArgs false

/-! ### No level is above 126 -/

theorem orderM_ok {F : List Int} : ∀ (r : Nat) (i : Int) (O : List Int), O.Nodup → (∀ x ∈ O, 0 ≤ x ∧ x < i) → 0 ≤ i → (orderM F r i O).Nodup ∧ ∀ x ∈ orderM F r i O, 0 ≤ x ∧ x < i + r
  | 0, i, O, h, h2, _ => ⟨h, fun x hx => by have := h2 x hx; simpa using this⟩
  | r + 1, i, O, h, h2, h0 => by
    simp only [orderM]
    have key : ∀ O' : List Int, O'.Nodup → (∀ x ∈ O', 0 ≤ x ∧ x < i + 1) → (orderM F r (i + 1) O').Nodup ∧ ∀ x ∈ orderM F r (i + 1) O', 0 ≤ x ∧ x < i + ((r + 1 : Nat) : Int) := fun O' a b => by
      obtain ⟨c, d⟩ := orderM_ok (F := F) r (i + 1) O' a b (by omega)
      exact ⟨c, fun x hx => by have := d x hx; omega⟩
    split
    · exact key O h fun x hx => by have := h2 x hx; omega
    · refine key _ (List.nodup_append.mpr ⟨h, by simp, fun a ha b hb e => ?_⟩) fun x hx => ?_
      · have := h2 a ha; rw [List.mem_singleton.mp hb] at e; omega
      · rcases List.mem_append.mp hx with hx | hx
        · have := h2 x hx; omega
        · rw [List.mem_singleton.mp hx]; omega

theorem runEnd_lv {F L O : List Int} {k : Int} : ∀ (r : Nat) (j : Int), (∀ p : Int, k ≤ p → p < j → rd L (rd O p) = rd L (rd O k)) → ∀ p : Int, k ≤ p → p < runEnd F L O k r j → rd L (rd O p) = rd L (rd O k)
  | 0, j, h => h
  | r + 1, j, h => by
    simp only [runEnd]
    split
    · rename_i hc
      exact runEnd_lv r (j + 1) fun p a b => by
        by_cases e : p = j
        · rw [e]; exact hc.1
        · exact h p a (by omega)
    · exact h
theorem partI_mem {O : List Int} {k j x : Int} (h0 : 0 ≤ k) (hj : j ≤ O.length) (h : x ∈ partI O k j) : ∃ p : Int, k ≤ p ∧ p < j ∧ x = rd O p := by
  unfold partI at h
  obtain ⟨n, hn⟩ := List.mem_iff_getElem?.mp h
  rw [List.getElem?_take] at hn
  split at hn
  · rename_i hlt
    rw [List.getElem?_drop] at hn
    refine ⟨k + n, by omega, by omega, ?_⟩
    unfold rd
    rw [show (k + (n : Int)).toNat = k.toNat + n by omega, List.getD_eq_getElem?_getD, hn]; rfl
  · cases hn
theorem take_part {O : List Int} {k j : Int} (h0 : 0 ≤ k) (hk : k ≤ j) : O.take j.toNat = O.take k.toNat ++ partI O k j := by
  unfold partI
  rw [← List.take_add, show k.toNat + (j.toNat - k.toNat) = j.toNat by omega]

structure SeqI (F L M O : List Int) (k : Int) (E : List SE) (G : Int → Option Nat) : Prop where
  lv : ∀ e ∈ E, ∀ p ∈ e.A, rd L p = e.lv
  pm : (E.flatMap SE.A).Perm (O.take k.toNat)
  g : ∀ x i, G x = some i → ∃ h : i < E.length, E[i].lv = rd L x

theorem flat_set {E : List SE} {i : Nat} (h : i < E.length) (e : SE) (P : List Int) (he : e.A = E[i].A ++ P) : ((E.set i e).flatMap SE.A).Perm (E.flatMap SE.A ++ P) := by
  have h1 : E = E.take i ++ E[i] :: E.drop (i + 1) := by rw [← List.drop_eq_getElem_cons h, List.take_append_drop]
  have h2 : E.set i e = E.take i ++ e :: E.drop (i + 1) := by rw [List.set_eq_take_append_cons_drop, if_pos h]
  rw [h2]
  conv => rhs; rw [h1]
  simp only [List.flatMap_append, List.flatMap_cons, he, List.append_assoc]
  exact List.Perm.append_left _ (List.Perm.append_left _ List.perm_append_comm)

theorem SeqI.step {F L M O : List Int} {b k j : Int} {E : List SE} {G : Int → Option Nat} (h : SeqI F L M O k E G) (h0 : 0 ≤ k) (hk : k < j) (hj : j ≤ O.length) (hl : ∀ p : Int, k ≤ p → p < j → rd L (rd O p) = rd L (rd O k))
    (hO : ∀ x ∈ O, 0 ≤ x ∧ x < F.length) (hM : ∀ o : Int, 0 ≤ o → o < F.length → isOpener (rd F o) → rd M o < 0 ∨ rd L (rd M o) = rd L o) {i : Nat} (hi : i < E.length) (hlv : E[i].lv = rd L (rd O k)) :
    SeqI F L M O j (stepE F L b O k j i E) (openG F M O j i G) := by
  have hg : E.getD i default = E[i] := by rw [List.getD_eq_getElem?_getD, List.getElem?_eq_getElem hi]; rfl
  have hlen : (stepE F L b O k j i E).length = E.length := by unfold stepE; exact List.length_set
  have hat : ∀ q (hq : q < E.length), ((stepE F L b O k j i E)[q]'(by rw [hlen]; exact hq)).lv = E[q].lv := fun q hq => by
    simp only [stepE, List.getElem_set]
    by_cases e : i = q
    · subst e; rw [if_pos rfl, hg]; rfl
    · rw [if_neg e]
  refine { lv := fun e he p hp => ?_, pm := ?_, g := fun x q hx => ?_ }
  · unfold stepE at he
    rcases List.mem_or_eq_of_mem_set he with he | he
    · exact h.lv e he p hp
    · subst he
      rw [hg] at hp ⊢
      simp only [growE] at hp ⊢
      rcases List.mem_append.mp hp with hp | hp
      · exact h.lv _ (List.getElem_mem hi) p hp
      · obtain ⟨q, q0, q1, rfl⟩ := partI_mem h0 hj hp
        rw [hl q q0 q1, hlv]
  · rw [take_part h0 (show k ≤ j by omega)]
    exact (flat_set hi _ (partI O k j) (by rw [hg]; rfl)).trans (h.pm.append_right _)
  · unfold openG at hx
    have old : ∀ q, G x = some q → ∃ h : q < (stepE F L b O k j i E).length, (stepE F L b O k j i E)[q].lv = rd L x := fun q hx => by
      obtain ⟨h1, h2⟩ := h.g x q hx
      exact ⟨by rw [hlen]; exact h1, by rw [hat q h1]; exact h2⟩
    split at hx
    · rename_i hc
      simp only at hx
      split at hx
      · rename_i hxe
        cases hx
        refine ⟨by rw [hlen]; exact hi, ?_⟩
        rw [hat i hi, hlv, hxe]
        have hmem : rd O (j - 1) ∈ O := by
          unfold rd
          rw [List.getD_eq_getElem?_getD, List.getElem?_eq_getElem (by omega)]
          exact List.getElem_mem _
        have hr := hO _ hmem
        rcases hM _ hr.1 hr.2 hc.1 with h1 | h1
        · omega
        · rw [h1, hl (j - 1) (by omega) (by omega)]
      · exact old q hx
    · exact old q hx

theorem seqsM_ok {F L M O : List Int} {b : Int} (hO : ∀ x ∈ O, 0 ≤ x ∧ x < F.length) (hM : ∀ o : Int, 0 ≤ o → o < F.length → isOpener (rd F o) → rd M o < 0 ∨ rd L (rd M o) = rd L o) :
    ∀ (n : Nat) (k : Int) (E : List SE) (G : Int → Option Nat), SeqI F L M O k E G → 0 ≤ k → ∃ k' G', SeqI F L M O k' (seqsM F L M b O n k E G) G'
  | 0, k, E, G, h, h0 => ⟨k, G, h⟩
  | n + 1, k, E, G, h, h0 => by
    simp only [seqsM]
    split
    · rename_i hlt
      have hgt := runEnd_gt (F := F) (L := L) (O := O) (k := k) (r := O.length - k.toNat) (by omega)
      have hle := (runEnd_ge (F := F) (L := L) (O := O) (k := k) (O.length - k.toNat) k).2
      have hl := runEnd_lv (F := F) (L := L) (O := O) (k := k) (O.length - k.toNat) k (fun p a b => by omega)
      generalize runEnd F L O k (O.length - k.toNat) k = j at hgt hle hl
      split
      · rename_i i hG
        obtain ⟨h1, h2⟩ := h.g _ _ hG
        exact seqsM_ok hO hM n j _ _ (h.step h0 hgt (by omega) hl hO hM h1 h2) (by omega)
      · have hE : SeqI F L M O k (E ++ [newE F L b O k]) G := {
          lv := fun e he p hp => by
            rcases List.mem_append.mp he with he | he
            · exact h.lv e he p hp
            · rw [List.mem_singleton.mp he] at hp; simp [newE] at hp
          pm := by rw [List.flatMap_append]; simpa [newE] using h.pm
          g := fun x i hx => by
            obtain ⟨h1, h2⟩ := h.g x i hx
            exact ⟨by simp; omega, by rw [List.getElem_append_left h1]; exact h2⟩ }
        refine seqsM_ok hO hM n j _ _ (hE.step h0 hgt (by omega) hl hO hM (i := E.length) (by simp) ?_) (by omega)
        rw [List.getElem_append_right (Nat.le_refl _)]
        simp [newE]
    · exact ⟨k, G, h⟩

/-! ### What the sequences' steps add -/

theorem bumpOf_bd {lv c x : Int} (h : 0 ≤ x ∧ x ≤ 125) (e : x = lv) : 0 ≤ bumpOf lv c x ∧ bumpOf lv c x ≤ 126 := by
  have ht : lv.tmod 2 = lv % 2 := Int.tmod_eq_emod_of_nonneg (by omega)
  unfold bumpOf
  rw [ht]
  split
  · rw [wrap64 (by omega)]; omega
  split
  · rw [wrap64 (by omega)]; omega
  split
  · rw [wrap64 (by omega)]; omega
  · omega

theorem rd_get {A : List Int} {k : Nat} (h : k < A.length) : rd A (k : Int) = A[k] := by unfold rd; rw [Int.toNat_natCast, List.getD_eq_getElem?_getD, List.getElem?_eq_getElem h]; rfl

theorem bumpM_bd {A N Lx rest : List Int} {lv : Int} (hlv : ∀ p ∈ A, rd Lx p = lv) (hx : ∀ j : Int, 0 ≤ rd Lx j ∧ rd Lx j ≤ 125) : ∀ (r k : Nat) (L : List Int), k + r = A.length → (A.drop k ++ rest).Nodup → (∀ p ∈ A.drop k ++ rest, 0 ≤ p ∧ p < L.length) →
    (∀ j : Int, 0 ≤ rd L j ∧ rd L j ≤ 126) → (∀ p ∈ A.drop k ++ rest, rd L p = rd Lx p) → (∀ j : Int, 0 ≤ rd (bumpM A N lv r k L) j ∧ rd (bumpM A N lv r k L) j ≤ 126) ∧ ∀ p ∈ rest, rd (bumpM A N lv r k L) p = rd Lx p
  | 0, k, L, hk, hn, hp, hb, he => ⟨hb, fun p h => he p (List.mem_append_right _ h)⟩
  | r + 1, k, L, hk, hn, hp, hb, he => by
    have hkA : k < A.length := by omega
    rw [List.drop_eq_getElem_cons hkA, List.cons_append] at hn hp he
    simp only [bumpM, rd_get hkA]
    have hp0 := hp _ List.mem_cons_self
    have he0 := he _ List.mem_cons_self
    have hv := bumpOf_bd (lv := lv) (c := rd N A[k]) (x := rd L A[k]) (by rw [he0]; exact hx _) (by rw [he0]; exact hlv _ (List.getElem_mem hkA))
    have := bumpM_bd (N := N) (rest := rest) hlv hx r (k + 1) (L.set A[k].toNat (bumpOf lv (rd N A[k]) (rd L A[k]))) (by omega) (List.nodup_cons.mp hn).2 (fun p h => by rw [List.length_set]; exact hp p (List.mem_cons_of_mem _ h)) (bd_set hp0.1 hb hv) (fun p h => by
      have hp1 := hp p (List.mem_cons_of_mem _ h)
      have hne : p ≠ A[k] := fun e => (List.nodup_cons.mp hn).1 (by rw [← e]; exact h)
      rw [rd_set hp0.1 hp1.1 hp0.2, if_neg hne]
      exact he p (List.mem_cons_of_mem _ h))
    rw [show ((k : Int) + 1) = ((k + 1 : Nat) : Int) by omega]
    exact this

theorem seqAllM_bd {Y : Exts} {C F Lx : List Int} (hx : ∀ j : Int, 0 ≤ rd Lx j ∧ rd Lx j ≤ 125) : ∀ (E : List SE) (N L : List Int), (∀ e ∈ E, ∀ p ∈ e.A, rd Lx p = e.lv) → (E.flatMap SE.A).Nodup → (∀ p ∈ E.flatMap SE.A, 0 ≤ p ∧ p < L.length) →
    (∀ j : Int, 0 ≤ rd L j ∧ rd L j ≤ 126) → (∀ p ∈ E.flatMap SE.A, rd L p = rd Lx p) → ∀ j : Int, 0 ≤ rd (seqAllM Y C F E N L).2 j ∧ rd (seqAllM Y C F E N L).2 j ≤ 126
  | [], N, L, _, _, _, hb, _ => hb
  | e :: E, N, L, hlv, hn, hp, hb, he => by
    rw [List.flatMap_cons] at hn hp he
    simp only [seqAllM]
    have h1 := bumpM_bd (A := e.A) (N := restN e.A e.st e.en e.lv (bracketsM Y C e.A F e.lv e.st (weakM e.A F e.st N))) (rest := E.flatMap SE.A) (hlv e List.mem_cons_self) hx e.A.length 0 L (by omega) hn hp hb he
    have hlen := (seqStepM_len (Y := Y) (C := C) (F := F) (e := e) (N := N) (L := L)).2
    exact seqAllM_bd hx E _ _ (fun e' h => hlv e' (List.mem_cons_of_mem _ h)) (List.nodup_append.mp hn).2.1 (fun p h => by rw [hlen]; exact hp p (List.mem_append_right _ h)) h1.1 h1.2

theorem ends1M_bd {F : List Int} {w : Int} : ∀ (r : Nat) (i last : Int) (L : List Int), 0 ≤ i → (∀ j : Int, 0 ≤ rd L j ∧ rd L j ≤ w) → 0 ≤ last ∧ last ≤ w → ∀ j : Int, 0 ≤ rd (ends1M F r i last L) j ∧ rd (ends1M F r i last L) j ≤ w
  | 0, _, _, _, _, h, _ => h
  | r + 1, i, last, L, h0, h, hl => by
    simp only [ends1M]
    split
    · exact ends1M_bd r _ _ _ (by omega) (bd_set h0 h hl) (bd_set h0 h hl i)
    · exact ends1M_bd r _ _ _ (by omega) h (h i)
theorem ends2M_bd {F : List Int} {b w : Int} (hb : 0 ≤ b ∧ b ≤ w) : ∀ (r : Nat) (t : Bool) (L : List Int), (∀ j : Int, 0 ≤ rd L j ∧ rd L j ≤ w) → ∀ j : Int, 0 ≤ rd (ends2M F b r t L) j ∧ rd (ends2M F b r t L) j ≤ w
  | 0, _, _, h => h
  | r + 1, t, L, h => by
    simp only [ends2M]
    refine ends2M_bd hb r _ _ ?_
    split
    · have := bd_set (i := (r : Int)) (Int.natCast_nonneg r) h hb
      simpa using this
    · exact h

theorem rep_zero (n : Nat) (j : Int) : rd (List.replicate n (0 : Int)) j = 0 := by
  unfold rd
  rw [List.getD_eq_getElem?_getD, List.getElem?_replicate]
  split <;> rfl

/-- No level is below 0 or above 126. -/
theorem levels_bd {Y : Exts} {C : List Int} {b : Int} (hb : -1 ≤ b ∧ b ≤ 1) (j : Int) : 0 ≤ rd (levelsM Y C b) j ∧ rd (levelsM Y C b) j ≤ 126 := by
  unfold levelsM
  have hFl : (C.map Y.LB).length = C.length := List.length_map _
  generalize C.map Y.LB = F at hFl
  have hb0 : 0 ≤ bOf b F ∧ bOf b F ≤ 1 := by
    unfold bOf
    split
    · exact baseM_range _ _
    · omega
  generalize bOf b F = b0 at hb0
  have hI : LinkI (pureD F (matchesM F) b0) 0 ⟨[(b0, -1, false)], 0, 0, 0⟩ (List.replicate F.length 0) [] (List.replicate F.length 0) :=
    { ne := by simp, op := Int.le_refl _, is := rfl, lv := fun e he => (by rw [List.mem_singleton.mp he]; dsimp only; omega), og := rfl, pl := fun o ho => (by cases ho), bd := fun j => (by rw [rep_zero]; omega), lk := fun o a b => (by omega) }
  obtain ⟨x', Og', hL⟩ := expM_link (D := pureD F (matchesM F) b0) hb0 F.length 0 ⟨[(b0, -1, false)], 0, 0, 0⟩ (List.replicate F.length 0) F [] (List.replicate F.length 0) hI (Int.le_refl _) (by simp) (by simp)
  have hlenX : (explM F b0).1.length = F.length := by unfold explM; rw [(expM_length _ _ _ _ _).1]; simp
  have hbd : ∀ j : Int, 0 ≤ rd (explM F b0).1 j ∧ rd (explM F b0).1 j ≤ 125 := hL.bd
  have hlk : ∀ o : Int, 0 ≤ o → o < F.length → isOpener (rd F o) → rd (matchesM F) o < 0 ∨ rd (explM F b0).1 (rd (matchesM F) o) = rd (explM F b0).1 o := fun o a c op => by
    rcases hL.lk o a (by omega) op with h | h
    · exact .inl h
    · exact .inr h.2.2
  generalize (explM F b0).2 = N
  generalize (explM F b0).1 = Lx at hlenX hbd hlk
  obtain ⟨hOn, hOr⟩ := orderM_ok (F := F) F.length 0 [] (by simp) (fun x h => by cases h) (Int.le_refl _)
  have hS0 : SeqI F Lx (matchesM F) (orderM F F.length 0 []) 0 [] (fun _ => none) := { lv := fun e he => (by cases he), pm := (by simp), g := fun x i h => (by cases h) }
  obtain ⟨k', G', hS⟩ := seqsM_ok (b := b0) (fun x h => by have := hOr x h; omega) hlk ((orderM F F.length 0 []).length + 1) 0 [] _ hS0 (Int.le_refl _)
  have hall : ∀ j : Int, 0 ≤ rd (seqAllM Y C F (sequencesM F Lx (matchesM F) b0) N Lx).2 j ∧ rd (seqAllM Y C F (sequencesM F Lx (matchesM F) b0) N Lx).2 j ≤ 126 :=
    seqAllM_bd hbd _ _ _ hS.lv (hS.pm.nodup_iff.mpr (hOn.sublist (List.take_sublist _ _))) (fun p h => by
      have := hOr p (List.mem_of_mem_take (hS.pm.mem_iff.mp h))
      rw [hlenX]; omega) (fun j => by have := hbd j; omega) (fun p _ => rfl)
  unfold endsM
  exact ends2M_bd (by omega) _ _ _ (ends1M_bd _ _ _ _ (Int.le_refl _) hall (by omega)) j
end Go.Proofs.Ythkklpegjcnjoaa

namespace Go.Proofs.Ythkklpegjcnjoaa
open Go.Ab
variable {X : CallE} {ro : Nat}
/-- The law RunsVisual: true, for any codes and any base. -/
theorem visual_law {Y : Exts} {s : St} {H : Hp} {A : Option Addr} {cap : Nat} {C : List Int} {b : Int} (hX : ExtOk X ro Y) (hM : Models ro s H) (hsrc : ∀ H' : Hp, (∀ ν o, H ν = some o → H' ν = some o) → Src Try.prog ro H' (.slice A C.length cap) 1 C.length (C.map (.int .i64))) (hbig : C.length * 8 ≤ 140737488351232) :
    Sp X Try.prog ro 12 [.slice A C.length cap, .int .i64 b] s fun v H' => v = .bool true := by
  by_cases hb : levelsBad C.length b = 0
  · refine visual_good hX hM hsrc hb fun i _ _ => levels_bd ?_ i
    unfold levelsBad at hb
    split at hb
    · cases hb
    · omega
  · exact visual_bad hX hM hsrc hbig hb
end Go.Proofs.Ythkklpegjcnjoaa
