/- The pure statement of RunsScripts: both ways of finding each character's script come to the same list, for every list of codes. -/
import Derived.Test.YthkklpegjcnjoaaPRunsScriptsx2
import Derived.Test.YthkklpegjcnjoaaTables
namespace Go.Proofs.Ythkklpegjcnjoaa.Pure
open Go.RowKit Go.Proofs.Ythkklpegjcnjoaa.PRunsScripts Go.Proofs.YthkklpegjcnjoaaW.PrintWords Go.Proofs.YthkklpegjcnjoaaW.PrintLast Go.Proofs.YthkklpegjcnjoaaW.PrintMore
set_option linter.unusedVariables false
set_option linter.unusedSimpArgs false

/-- With rounds enough the answer is r. -/
def E {α : Type} (g : Nat → Option α) (r : α) : Prop := ∃ K, ∀ k, K ≤ k → g k = some r
theorem E.of {α : Type} {r : α} : E (fun _ => some r) r := ⟨0, fun _ _ => rfl⟩
theorem E.succ {α : Type} {g h : Nat → Option α} {r : α} (e : ∀ k, g (k + 1) = h k) (H : E h r) : E g r := by
  obtain ⟨K, hK⟩ := H
  refine ⟨K + 1, fun k hk => ?_⟩
  obtain ⟨m, rfl⟩ : ∃ m, k = m + 1 := ⟨k - 1, by omega⟩
  rw [e]; exact hK m (by omega)
theorem E.bind {α β : Type} {g : Nat → Option α} {r : α} {h : Nat → α → Option β} {s : β} (H : E g r) (H2 : E (fun k => h k r) s) : E (fun k => (g k).bind (h k)) s := by
  obtain ⟨K, hK⟩ := H
  obtain ⟨L, hL⟩ := H2
  exact ⟨K + L, fun k hk => by simp only [hK k (by omega), Option.bind_some]; exact hL k (by omega)⟩
theorem E.ex {α : Type} {g : Nat → Option α} {r : α} (H : E g r) : ∃ k, g k = some r := by
  obtain ⟨K, hK⟩ := H
  exact ⟨K, hK K (Nat.le_refl _)⟩

theorem w64 {n : Int} (h0 : -9223372036854775808 ≤ n) (h1 : n < 9223372036854775808) : wrap64 n = n := by
  unfold wrap64
  omega
theorem nat_one (i : Nat) : (i : Int) + 1 = ((i + 1 : Nat) : Int) := rfl
theorem rd_nat (l : List Int) (b : Nat) : rd l (b : Int) = l.getD b 0 := by simp [rd]

theorem same_l0 (l : List Int) (hl : l.length < 17592186044416) : ∀ (d i : Nat), i + d = l.length → E (fun k => serifref02_SameInts.l0 k l l (l.length : Int) (i : Int)) true := by
  intro d
  induction d with
  | zero =>
    intro i hi
    exact E.succ (h := fun _ => some true) (fun k => by simp only [serifref02_SameInts.l0]; rw [if_neg (by omega)]) E.of
  | succ d ih =>
    intro i hi
    exact E.succ (h := _) (fun k => by simp only [serifref02_SameInts.l0]; rw [if_pos (by omega), if_pos (by omega), if_pos (by omega), if_pos (by omega), if_pos trivial, w64 (by omega) (by omega), nat_one]) (ih (i + 1) (by omega))

theorem same_f (l : List Int) (hl : l.length < 17592186044416) : E (fun k => serifref02_SameInts.f k l l) true := by
  unfold serifref02_SameInts.f
  simp only [if_true]
  exact same_l0 l hl l.length 0 (by omega)

/-! ### The plain law on scripts -/
noncomputable def sc (c : Int) : Int := (lookF c).1

/-- The last script of its own; 0: none. -/
def bk (p : List Int) : Int := p.foldl (fun b s => if 1 < s then s else b) 0
/-- The first script of its own; 0: none. -/
def fw : List Int → Int
  | [] => 0
  | s :: l => if 1 < s then s else fw l
def g (p : List Int) (j : Nat) : Int := if bk (p.take (j + 1)) = 0 then fw p else bk (p.take (j + 1))

theorem bk_snoc (p : List Int) (s : Int) : bk (p ++ [s]) = if 1 < s then s else bk p := by simp [bk, List.foldl_append]

theorem fw_app (p q : List Int) : fw (p ++ q) = if fw p = 0 then fw q else fw p := by
  induction p with
  | nil => simp [fw]
  | cons s l ih =>
    simp only [List.cons_append, fw]
    split
    · rw [if_neg (by omega)]
    · exact ih

theorem bk_zero : ∀ (p : List Int), (bk p = 0 ↔ ∀ s ∈ p, ¬ 1 < s) := by
  intro p
  induction h : p.length generalizing p with
  | zero =>
    have : p = [] := List.length_eq_zero_iff.1 h
    subst this
    simp [bk]
  | succ n ih =>
    obtain ⟨q, s, rfl⟩ : ∃ q s, p = q ++ [s] := ⟨p.dropLast, p.getLast (by intro e; subst e; simp at h), (List.dropLast_concat_getLast _).symm⟩
    rw [bk_snoc]
    have hq := ih q (by simpa using h)
    constructor
    · intro hb t ht
      split at hb
      · omega
      · rcases List.mem_append.1 ht with h1 | h1
        · exact hq.1 hb t h1
        · rw [List.mem_singleton.1 h1]; assumption
    · intro hb
      rw [if_neg (hb s (by simp))]
      exact hq.2 fun t ht => hb t (by simp [ht])

theorem fw_zero : ∀ (p : List Int), (fw p = 0 ↔ ∀ s ∈ p, ¬ 1 < s) := by
  intro p
  induction p with
  | nil => simp [fw]
  | cons s l ih =>
    simp only [fw]
    split
    · constructor
      · intro h; omega
      · intro h; exact absurd (by assumption) (h s (by simp))
    · rw [ih]; simp; omega

theorem bk_fw (p : List Int) : bk p = 0 ↔ fw p = 0 := (bk_zero p).trans (fw_zero p).symm

/-- The list as far as it stands behind a beginning of the text. -/
def outOf (p : List Int) : List Int := (List.range p.length).map (g p)

theorem g_lt (p : List Int) (s : Int) (j : Nat) (hj : j < p.length) (h : ¬ (1 < s ∧ bk p = 0)) : g (p ++ [s]) j = g p j := by
  unfold g
  rw [List.take_append_of_le_length (by omega)]
  split
  · rw [fw_app]
    rename_i h0
    split
    · rename_i hf
      rw [hf]
      have hbp := (bk_fw p).2 hf
      simp only [fw]
      rw [if_neg (by omega)]
    · rfl
  · rfl

theorem outOf_snoc (p : List Int) (s : Int) (h : ¬ (1 < s ∧ bk p = 0)) : outOf (p ++ [s]) = outOf p ++ [if 1 < s then s else bk p] := by
  unfold outOf
  rw [List.length_append, List.length_singleton, List.range_succ, List.map_append]
  congr 1
  · apply List.map_congr_left
    intro j hj
    exact g_lt p s j (List.mem_range.1 hj) h
  · simp only [List.map_cons, List.map_nil]
    congr 1
    unfold g
    rw [List.take_of_length_le (by simp), bk_snoc]
    by_cases h1 : 1 < s
    · rw [if_pos h1, if_neg (by omega)]
    · rw [if_neg h1]
      by_cases h0 : bk p = 0
      · rw [if_pos h0, h0, fw_app, if_pos ((bk_fw p).1 h0), fw, if_neg h1, fw]
      · rw [if_neg h0]

theorem outOf_first (p : List Int) (s : Int) (h1 : 1 < s) (h2 : bk p = 0) : outOf (p ++ [s]) = List.replicate p.length s ++ [s] := by
  have hz := (bk_zero p).1 h2
  unfold outOf
  rw [List.length_append, List.length_singleton, List.range_succ, List.map_append]
  congr 1
  · apply List.ext_getElem?
    intro j
    rw [List.getElem?_map, List.getElem?_replicate]
    by_cases hj : j < p.length
    · rw [List.getElem?_range hj, if_pos hj]
      simp only [Option.map_some]
      congr 1
      unfold g
      have hb : bk ((p ++ [s]).take (j + 1)) = 0 := by
        rw [List.take_append_of_le_length (by omega)]
        exact (bk_zero _).2 fun t ht => hz t (List.mem_of_mem_take ht)
      rw [if_pos hb, fw_app, (bk_fw p).1 h2]
      simp [fw, h1]
    · rw [if_neg hj, List.getElem?_eq_none (by simpa using hj)]; rfl
  · simp only [List.map_cons, List.map_nil]
    congr 1
    unfold g
    rw [List.take_of_length_le (by simp), bk_snoc, if_pos h1, if_neg (by omega)]

theorem bk_none (p : List Int) (h : bk p = 0) : outOf p = List.replicate p.length 0 := by
  apply List.ext_getElem?
  intro j
  unfold outOf
  rw [List.getElem?_map, List.getElem?_replicate]
  by_cases hj : j < p.length
  · rw [List.getElem?_range hj, if_pos hj]
    simp only [Option.map_some]
    congr 1
    unfold g
    have hz := (bk_zero p).1 h
    rw [if_pos ((bk_zero _).2 fun t ht => hz t (List.mem_of_mem_take ht)), (bk_fw p).1 h]
  · rw [if_neg hj, List.getElem?_eq_none (by simpa using hj)]; rfl

theorem outOf_length (p : List Int) : (outOf p).length = p.length := by simp [outOf]

/-! ### The program's loops -/
theorem set_mid (p q : List Int) (z x : Int) (n : Nat) (hn : n = p.length) : (p ++ z :: q).set n x = (p ++ [x]) ++ q := by
  subst hn
  induction p with
  | nil => rfl
  | cons a p ih => simp

theorem own_f (s : Int) (h : 0 ≤ s) : runs_own.f s = some (decide (1 < s)) := by
  unfold runs_own.f
  split
  · subst_vars; rfl
  · congr 1
    by_cases e : s = 1
    · subst e; rfl
    · have : (s != 1) = true := by simpa using e
      rw [this]; simp; omega

/-- The inner loop: all places ahead of the first of its own get its script. -/
theorem p1 (l0 x3 : List Int) (i : Nat) (s : Int) (r : List Int) (hi : i < x3.length) (hl : x3.length = l0.length) (hb : l0.length < 17592186044416)
    (H : E (fun k => runs_Scripts.l0 k l0 ((List.replicate i s ++ x3.drop i).set i s) s (l0.length : Int) ((i + 1 : Nat) : Int)) r) :
    ∀ (d j : Nat), j + d = i → E (fun k => runs_Scripts.l1 k l0 (List.replicate j s ++ x3.drop j) (i : Int) s (l0.length : Int) (i : Int) (i : Int) (j : Int)) r := by
  intro d
  induction d with
  | zero =>
    intro j hj
    have e : j = i := by omega
    subst e
    have hlen : (List.replicate j s ++ x3.drop j).length = x3.length := by simp; omega
    refine E.succ (h := _) (fun k => by
      simp only [runs_Scripts.l1]
      rw [if_neg (by omega), if_pos (by omega), if_pos (by omega), w64 (by omega) (by omega), nat_one, Int.toNat_natCast]) H
  | succ d ih =>
    intro j hj
    have hlen : (List.replicate j s ++ x3.drop j).length = x3.length := by simp; omega
    have hdrop : x3.drop j = x3.getD j 0 :: x3.drop (j + 1) := by
      rw [List.getD_eq_getElem?_getD, List.getElem?_eq_getElem (by omega)]
      exact List.drop_eq_getElem_cons (by omega)
    have e : (List.replicate j s ++ x3.drop j).set j s = List.replicate (j + 1) s ++ x3.drop (j + 1) := by
      rw [hdrop, set_mid _ _ _ _ _ (by simp), List.replicate_succ']
    refine E.succ (h := _) (fun k => by
      simp only [runs_Scripts.l1]
      rw [if_pos (by omega), if_pos (by omega), if_pos (by omega), Int.toNat_natCast, e, w64 (by omega) (by omega), nat_one]) (ih (j + 1) (by omega))

theorem p0 (l0 : List Int) (hb : l0.length < 17592186044416) : ∀ (d i : Nat), i + d = l0.length →
    E (fun k => runs_Scripts.l0 k l0 (outOf ((l0.take i).map sc) ++ List.replicate d 0) (bk ((l0.take i).map sc)) (l0.length : Int) (i : Int)) (outOf (l0.map sc)) := by
  intro d
  induction d with
  | zero =>
    intro i hi
    have e : i = l0.length := by omega
    subst e
    rw [List.take_length, List.replicate_zero, List.append_nil]
    exact E.succ (h := fun _ => some _) (fun k => by simp only [runs_Scripts.l0]; rw [if_neg (by omega)]) E.of
  | succ d ih =>
    intro i hi
    have hi2 : i < l0.length := by omega
    have hp : (l0.take (i + 1)).map sc = (l0.take i).map sc ++ [sc (l0.getD i 0)] := by
      rw [List.take_add_one, List.map_append]
      congr 1
      rw [List.getD_eq_getElem?_getD, List.getElem?_eq_getElem hi2]
      rfl
    have hpl : ((l0.take i).map sc).length = i := by simp; omega
    have H := ih (i + 1) (by omega)
    rw [hp] at H
    generalize (l0.take i).map sc = p at H hpl ⊢
    have hs0 : 0 ≤ sc (l0.getD i 0) := script_nonneg _
    have hlk : ucd_Look.f (l0.getD i 0) = some (lookF (l0.getD i 0)) := rfl
    have hsc : (lookF (l0.getD i 0)).1 = sc (l0.getD i 0) := rfl
    have hown := own_f (sc (l0.getD i 0)) hs0
    have hol : (outOf p ++ List.replicate (d + 1) (0 : Int)).length = l0.length := by rw [List.length_append, outOf_length, List.length_replicate]; omega
    by_cases h1 : 1 < sc (l0.getD i 0)
    · rw [decide_eq_true h1] at hown
      by_cases h2 : bk p = 0
      · rw [outOf_first p _ h1 h2, bk_snoc, if_pos h1, hpl] at H
        refine E.succ (h := fun k => runs_Scripts.l1 k l0 (outOf p ++ List.replicate (d + 1) (0 : Int)) (i : Int) (sc (l0.getD i 0)) (l0.length : Int) (i : Int) (i : Int) 0) (fun k => by
          simp only [runs_Scripts.l0]
          rw [if_pos (by omega), if_pos (by omega), if_pos (by omega), rd_nat, hlk]
          simp only [Option.bind_some, hsc, hown, if_true, if_pos h2]) ?_
        have hz := bk_none p h2
        refine p1 l0 (outOf p ++ List.replicate (d + 1) 0) i _ _ (by omega) (by omega) hb ?_ i 0 (by omega)
        have e : (List.replicate i (sc (l0.getD i 0)) ++ (outOf p ++ List.replicate (d + 1) (0 : Int)).drop i).set i (sc (l0.getD i 0)) = (List.replicate i (sc (l0.getD i 0)) ++ [sc (l0.getD i 0)]) ++ List.replicate d 0 := by
          rw [List.drop_append_of_le_length (by rw [outOf_length]; omega), List.drop_of_length_le (by rw [outOf_length]; omega), List.nil_append, List.replicate_succ, set_mid _ _ _ _ _ (by simp)]
        rw [e]
        exact H
      · rw [outOf_snoc p _ (fun h => h2 h.2), bk_snoc, if_pos h1] at H
        have e : (outOf p ++ List.replicate (d + 1) (0 : Int)).set i (sc (l0.getD i 0)) = (outOf p ++ [sc (l0.getD i 0)]) ++ List.replicate d 0 := by
          rw [List.replicate_succ, set_mid _ _ _ _ _ (by rw [outOf_length]; omega)]
        refine E.succ (h := _) (fun k => by
          simp only [runs_Scripts.l0]
          rw [if_pos (by omega), if_pos (by omega), if_pos (by omega), rd_nat, hlk]
          simp only [Option.bind_some, hsc, hown, if_true, if_neg h2]
          rw [if_pos (by omega), Int.toNat_natCast, e, w64 (by omega) (by omega), nat_one]) H
    · rw [decide_eq_false h1] at hown
      rw [outOf_snoc p _ (fun h => h1 h.1), bk_snoc, if_neg h1] at H
      have e : (outOf p ++ List.replicate (d + 1) (0 : Int)).set i (bk p) = (outOf p ++ [bk p]) ++ List.replicate d 0 := by
        rw [List.replicate_succ, set_mid _ _ _ _ _ (by rw [outOf_length]; omega)]
      refine E.succ (h := _) (fun k => by
        simp only [runs_Scripts.l0]
        rw [if_pos (by omega), if_pos (by omega), if_pos (by omega), rd_nat, hlk]
        simp only [Option.bind_some, hsc, hown, if_neg (show ¬ (false = true) by decide)]
        rw [if_pos (by omega), Int.toNat_natCast, e, w64 (by omega) (by omega), nat_one]) H

theorem prog_f (l0 : List Int) (hb : l0.length < 17592186044416) : E (fun k => runs_Scripts.f k l0) (outOf (l0.map sc)) := by
  have h := p0 l0 hb l0.length 0 (by omega)
  unfold runs_Scripts.f
  simp only [if_pos (show (0 : Int) ≤ (l0.length : Int) by omega), Int.toNat_natCast, if_pos (show l0.length ≤ 35184372088832 by omega)]
  simpa [outOf, bk] using h

/-! ### The document's loops -/
theorem fwFrom (l0 : List Int) (hb : l0.length < 17592186044416) : ∀ (d i : Nat), i + d = l0.length → E (fun k => serifref14_script.l1 k l0 (i : Int)) (fw ((l0.drop i).map sc)) := by
  intro d
  induction d with
  | zero =>
    intro i hi
    rw [List.drop_of_length_le (by omega)]
    exact E.succ (h := fun _ => some _) (fun k => by simp only [serifref14_script.l1]; rw [if_neg (by omega)]; rfl) E.of
  | succ d ih =>
    intro i hi
    have hi2 : i < l0.length := by omega
    have hd : l0.drop i = l0.getD i 0 :: l0.drop (i + 1) := by
      rw [List.getD_eq_getElem?_getD, List.getElem?_eq_getElem hi2]
      exact List.drop_eq_getElem_cons hi2
    have hlk : serifref12_Look.f (l0.getD i 0) = some (lookF (l0.getD i 0)) := congrArg some (look_same _)
    have hsc : (lookF (l0.getD i 0)).1 = sc (l0.getD i 0) := rfl
    rw [hd, List.map_cons, fw]
    by_cases h1 : 1 < sc (l0.getD i 0)
    · rw [if_pos h1]
      exact E.succ (h := fun _ => some _) (fun k => by
        simp only [serifref14_script.l1]
        rw [if_pos (by omega), if_pos (by omega), rd_nat, hlk]
        simp only [Option.bind_some, hsc, if_pos (show sc (l0.getD i 0) > 1 from h1)]) E.of
    · rw [if_neg h1]
      exact E.succ (h := _) (fun k => by
        simp only [serifref14_script.l1]
        rw [if_pos (by omega), if_pos (by omega), rd_nat, hlk]
        simp only [Option.bind_some, hsc, if_neg (show ¬ sc (l0.getD i 0) > 1 from h1)]
        rw [w64 (by omega) (by omega), nat_one]) (ih (i + 1) (by omega))

theorem bkFrom (l0 : List Int) (a : Nat) (ha : a ≤ l0.length) (hb : l0.length < 17592186044416) : ∀ (n : Nat), n ≤ l0.length →
    E (fun k => serifref14_script.l0 k l0 (a : Int) ((n : Int) - 1)) (if bk ((l0.take n).map sc) = 0 then fw ((l0.drop a).map sc) else bk ((l0.take n).map sc)) := by
  intro n
  induction n with
  | zero =>
    intro _
    have h := fwFrom l0 hb (l0.length - a) a (by omega)
    refine E.succ (h := _) (fun k => by simp only [serifref14_script.l0]; rw [if_neg (by omega)]) ?_
    simpa [bk] using h
  | succ n ih =>
    intro hn
    have hi2 : n < l0.length := by omega
    have hp : (l0.take (n + 1)).map sc = (l0.take n).map sc ++ [sc (l0.getD n 0)] := by
      rw [List.take_add_one, List.map_append]
      congr 1
      rw [List.getD_eq_getElem?_getD, List.getElem?_eq_getElem hi2]
      rfl
    have e0 : ((n + 1 : Nat) : Int) - 1 = (n : Int) := by omega
    rw [hp, bk_snoc, e0]
    have hlk : serifref12_Look.f (l0.getD n 0) = some (lookF (l0.getD n 0)) := congrArg some (look_same _)
    have hsc : (lookF (l0.getD n 0)).1 = sc (l0.getD n 0) := rfl
    by_cases h1 : 1 < sc (l0.getD n 0)
    · rw [if_pos h1, if_neg (by omega)]
      exact E.succ (h := fun _ => some _) (fun k => by
        simp only [serifref14_script.l0]
        rw [if_pos (by omega), if_pos (by omega), if_pos (by omega), rd_nat, hlk]
        simp only [Option.bind_some, hsc, if_pos (show sc (l0.getD n 0) > 1 from h1)]) E.of
    · rw [if_neg h1]
      exact E.succ (h := _) (fun k => by
        simp only [serifref14_script.l0]
        rw [if_pos (by omega), if_pos (by omega), if_pos (by omega), rd_nat, hlk]
        simp only [Option.bind_some, hsc, if_neg (show ¬ sc (l0.getD n 0) > 1 from h1)]
        rw [w64 (by omega) (by omega)]) (ih (by omega))

theorem ref0 (l0 : List Int) (hb : l0.length < 17592186044416) : ∀ (d i : Nat), i + d = l0.length →
    E (fun k => serifref14_Scripts.l0 k l0 ((List.range i).map (g (l0.map sc))) (l0.length : Int) (i : Int)) (outOf (l0.map sc)) := by
  intro d
  induction d with
  | zero =>
    intro i hi
    have e : i = l0.length := by omega
    subst e
    exact E.succ (h := fun _ => some _) (fun k => by simp only [serifref14_Scripts.l0]; rw [if_neg (by omega)]; simp [outOf]) E.of
  | succ d ih =>
    intro i hi
    have H := ih (i + 1) (by omega)
    rw [List.range_succ, List.map_append] at H
    have hs := bkFrom l0 i (by omega) hb (i + 1) (by omega)
    have e0 : ((i + 1 : Nat) : Int) - 1 = (i : Int) := by omega
    have eg : (if bk ((l0.take (i + 1)).map sc) = 0 then fw ((l0.drop i).map sc) else bk ((l0.take (i + 1)).map sc)) = g (l0.map sc) i := by
      unfold g
      rw [List.map_take]
      split
      · rename_i hz
        have h1 : fw ((l0.map sc).take i) = 0 := by
          refine (fw_zero _).2 fun t ht => (bk_zero _).1 hz t ?_
          have : (l0.map sc).take i = ((l0.map sc).take (i + 1)).take i := by rw [List.take_take]; congr 1; omega
          rw [this] at ht
          exact List.mem_of_mem_take ht
        have h2 := fw_app ((l0.map sc).take i) ((l0.map sc).drop i)
        rw [List.take_append_drop, if_pos h1] at h2
        rw [h2, List.map_drop]
      · rfl
    rw [e0, eg] at hs
    refine E.succ (h := _) (fun k => by simp only [serifref14_Scripts.l0]; rw [if_pos (by omega)]) ?_
    refine E.bind (r := g (l0.map sc) i) (by unfold serifref14_script.f; exact hs) ?_
    simp only [if_pos (show ((List.range i).map (g (l0.map sc))).length < 17592186044416 by simp; omega), w64 (n := (i : Int) + 1) (by omega) (by omega)]
    exact H

theorem ref_f (l0 : List Int) (hb : l0.length < 17592186044416) : E (fun k => serifref14_Scripts.f k l0) (outOf (l0.map sc)) := by
  unfold serifref14_Scripts.f
  exact ref0 l0 hb l0.length 0 (by omega)

theorem RunsScripts : seriflaw14_RunsScripts.Pure := by
  intro l0 _ hb _
  have hn : l0.length < 17592186044416 := by omega
  have ho := prog_f l0 hn
  have hr := ref_f l0 hn
  refine E.ex (r := true) ?_
  unfold seriflaw14_RunsScripts.f
  simp only [seriflaw14_runsAlive.f, Option.bind_some, if_true, List.nil_append, List.length_nil, Nat.zero_add, if_pos hn]
  refine E.bind ho (E.bind hr (E.bind (same_f _ (by rw [outOf_length, List.length_map]; exact hn)) ?_))
  exact E.of

end Go.Proofs.Ythkklpegjcnjoaa.Pure
