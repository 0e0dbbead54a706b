/- A part of the proof: rules for walking code over the evaluator, and what the functions that were walked come to: no condition but those that each theorem states. -/
import Derived.Test.YthkklpegjcnjoaaPA
import Derived.Test.YthkklpegjcnjoaaTD
set_option linter.unusedVariables false
set_option linter.unusedSimpArgs false
namespace Go.Proofs.Ythkklpegjcnjoaa
open Go.Ab
set_option linter.unusedVariables false
set_option linter.unusedSimpArgs false

/-! ### A separator keeps its level -/

theorem set_ne {N : List Int} {k q x : Int} (hk : 0 ≤ k) (hq : 0 ≤ q) (h : k ≠ q) : rd (N.set k.toNat x) q = rd N q := by
  unfold rd
  rw [List.getD_eq_getElem?_getD, List.getElem?_set, if_neg (by omega), ← List.getD_eq_getElem?_getD]
section
variable {n : Nat} {q : Int} (hq : 0 ≤ q)
include hq
theorem become_ne {N : List Int} {k x : Int} (hk : 0 ≤ k) (hkn : k < n) (h : k ≠ q) : rd (becomeM (iota n) N k x) q = rd N q := by
  unfold becomeM
  rw [rd_iota hk hkn]
  exact set_ne hk hq h
theorem allM_ne {c : Int} : ∀ (r : Nat) (k : Int) (N : List Int), 0 ≤ k → k + r ≤ n → (q < k ∨ k + r ≤ q) → rd (allM (iota n) c r k N) q = rd N q
  | 0, _, _, _, _, _ => rfl
  | r + 1, k, N, h0, h1, h => by
    push_cast at h1 h
    simp only [allM]
    rw [allM_ne r (k + 1) _ (by omega) (by omega) (by omega), become_ne hq h0 (by omega) (by omega)]
theorem allM_eq {c : Int} : ∀ (r : Nat) (k : Int) (N : List Int), 0 ≤ k → k + r ≤ n → k ≤ q → q < k + r → n ≤ N.length → rd (allM (iota n) c r k N) q = c
  | 0, k, _, _, _, h2, h3, _ => by omega
  | r + 1, k, N, h0, h1, h2, h3, hl => by
    push_cast at h1 h3
    simp only [allM]
    by_cases e : k = q
    · rw [allM_ne hq r (k + 1) _ (by omega) (by omega) (by omega)]
      unfold becomeM
      rw [rd_iota h0 (by omega), rd_set h0 hq (by omega), if_pos e.symm]
    · exact allM_eq r (k + 1) _ (by omega) (by omega) (by omega) (by omega) (by rw [becomeM_length]; exact hl)
theorem nsmM_keep {f : List Int} : ∀ (r : Nat) (k last : Int) (N : List Int), 0 ≤ k → k + r ≤ n → rd N q = 10 → rd (nsmM (iota n) f r k last N) q = 10
  | 0, _, _, _, _, _, h => h
  | r + 1, k, last, N, h0, h1, h => by
    push_cast at h1
    simp only [nsmM]
    split
    · rename_i hc
      rw [rd_iota h0 (by omega)] at hc
      have hne : k ≠ q := fun e => by rw [e, h] at hc; omega
      exact nsmM_keep r _ _ _ (by omega) (by omega) (by rw [become_ne hq h0 (by omega) hne]; exact h)
    · exact nsmM_keep r _ _ _ (by omega) (by omega) h
theorem backedM_keep {cl sg to : Int} {ar : Bool} (hcl : cl ≠ 10) : ∀ (r : Nat) (k last : Int) (N : List Int), 0 ≤ k → k + r ≤ n → rd N q = 10 → rd (backedM (iota n) cl sg to ar r k last N) q = 10
  | 0, _, _, _, _, _, h => h
  | r + 1, k, last, N, h0, h1, h => by
    push_cast at h1
    simp only [backedM]
    repeat' split
    · exact backedM_keep hcl r _ _ _ (by omega) (by omega) h
    · exact backedM_keep hcl r _ _ _ (by omega) (by omega) h
    · rename_i hc
      have hc1 := hc.1
      rw [rd_iota h0 (by omega)] at hc1
      have hne : k ≠ q := fun e => by rw [e, h] at hc1; exact hcl hc1.symm
      exact backedM_keep hcl r _ _ _ (by omega) (by omega) (by rw [become_ne hq h0 (by omega) hne]; exact h)
    · exact backedM_keep hcl r _ _ _ (by omega) (by omega) h
theorem turnM_keep (p : Int → Prop) [DecidablePred p] (hp : ¬ p 10) {to : Int} : ∀ (r : Nat) (k : Int) (N : List Int), 0 ≤ k → k + r ≤ n → rd N q = 10 → rd (turnM p (iota n) to r k N) q = 10
  | 0, _, _, _, _, h => h
  | r + 1, k, N, h0, h1, h => by
    push_cast at h1
    simp only [turnM]
    split
    · rename_i hc
      rw [rd_iota h0 (by omega)] at hc
      have hne : k ≠ q := fun e => by rw [e, h] at hc; exact hp hc
      exact turnM_keep p hp r _ _ (by omega) (by omega) (by rw [become_ne hq h0 (by omega) hne]; exact h)
    · exact turnM_keep p hp r _ _ (by omega) (by omega) h
theorem esM_keep : ∀ (r : Nat) (k : Int) (N : List Int), 1 ≤ k → k + r + 1 ≤ n ∨ r = 0 → rd N q = 10 → rd (esM (iota n) r k N) q = 10
  | 0, _, _, _, _, h => h
  | r + 1, k, N, h0, h1, h => by
    have h1'' : k + ((r + 1 : Nat) : Int) + 1 ≤ n := by rcases h1 with h | h <;> omega
    simp only [esM]
    split
    · rename_i hc
      have hc2 := hc.2
      rw [rd_iota (k := k) (by omega) (by omega)] at hc2
      have hne : k ≠ q := fun e => by rw [e, h] at hc2; omega
      exact esM_keep r _ _ (by omega) (by omega) (by rw [become_ne hq (by omega) (by omega) hne]; exact h)
    · exact esM_keep r _ _ (by omega) (by omega) h
omit hq in
theorem extM_all (pin : Int → Prop) [DecidablePred pin] {N : List Int} : ∀ (r : Nat) (a : Int), 0 ≤ a → a + r ≤ n → (∀ k : Int, a ≤ k → k < extM pin (iota n) N r a → pin (rd N k)) ∧ (extM pin (iota n) N r a < a + r → ¬ pin (rd N (extM pin (iota n) N r a)))
  | 0, a, h0, h1 => by simp only [extM]; exact ⟨fun k x y => by omega, fun h => by simp at h⟩
  | r + 1, a, h0, h1 => by
    push_cast at h1
    simp only [extM]
    rw [rd_iota h0 (by omega)]
    split
    · rename_i hc
      obtain ⟨g1, g2⟩ := extM_all pin (N := N) r (a + 1) (by omega) (by omega)
      refine ⟨fun k x y => ?_, fun h => g2 (by push_cast at h; omega)⟩
      by_cases e : k = a
      · rw [e]; exact hc
      · exact g1 k (by omega) y
    · rename_i hc
      exact ⟨fun k x y => by omega, fun _ => hc⟩
omit hq in
theorem rowsM_keep {G : Int → Int → List Int → List Int} (hG : ∀ (a b : Int) (N : List Int), 0 ≤ a → a < b → b ≤ n → (q < a ∨ b ≤ q) → rd (G a b N) q = rd N q) (pin : Int → Prop) [DecidablePred pin] (hp : ¬ pin 10) : ∀ (r : Nat) (a : Int) (N : List Int), 0 ≤ a → rd N q = 10 → rd (rowsM pin G (iota n) r a N) q = 10
  | 0, _, _, _, h => h
  | r + 1, a, N, h0, h => by
    simp only [rowsM]
    rw [iota_length]
    by_cases c : a < n
    · rw [if_pos c]
      have hg := extM_rg pin (B := iota n) (N := N) (n - a.toNat) a
      have hall := (extM_all pin (n := n) (N := N) (n - a.toNat) a h0 (by omega)).1
      generalize extM pin (iota n) N (n - a.toNat) a = b at hg hall
      split
      · rename_i hba
        refine rowsM_keep hG pin hp r _ _ (by omega) ?_
        rw [hG a b N h0 hba (by omega) ?_]
        · exact h
        · by_cases e : q < a
          · exact .inl e
          · by_cases e2 : b ≤ q
            · exact .inr e2
            · have := hall q (by omega) (by omega)
              rw [h] at this
              exact absurd this hp
      · exact rowsM_keep hG pin hp r _ _ (by omega) h
    · rw [if_neg c]; exact h
theorem weakM_keep {f N : List Int} {st : Int} (h : rd N q = 10) : rd (weakM (iota n) f st N) q = 10 := by
  unfold weakM
  simp only [iota_length]
  refine backedM_keep hq (by omega) _ _ _ _ (by omega) (by omega) ?_
  refine turnM_keep hq _ (by unfold isSep; omega) _ _ _ (by omega) (by omega) ?_
  refine rowsM_keep (n := n) (q := q) (fun a b N a0 ab hb hne => ?_) _ (by omega) _ _ _ (by omega) ?_
  · unfold etM
    split
    · exact allM_ne hq _ _ _ a0 (by omega) (by omega)
    · rfl
  refine esM_keep hq _ _ _ (by omega) (by omega) ?_
  refine turnM_keep hq _ (by omega) _ _ _ (by omega) (by omega) ?_
  refine backedM_keep hq (by omega) _ _ _ _ (by omega) (by omega) ?_
  exact nsmM_keep hq _ _ _ _ (by omega) (by omega) h
omit hq in
theorem pairsM_ne {Y : Exts} {C N : List Int} (h : rd N q = 10) : ∀ (r : Nat) (k : Int) (out op res : List (Int × Int)), 0 ≤ k → k + r ≤ n → (∀ x ∈ out, x.1 ≠ q ∧ x.2 ≠ q) → (∀ x ∈ op, x.1 ≠ q) → pairsM Y C (iota n) N r k out op = some res → ∀ x ∈ res, x.1 ≠ q ∧ x.2 ≠ q
  | 0, k, out, op, res, _, _, ho, _, hr => by cases hr; exact ho
  | r + 1, k, out, op, res, h0, h1, ho, hop, hr => by
    push_cast at h1
    simp only [pairsM] at hr
    rw [rd_iota h0 (by omega)] at hr
    split at hr
    · exact pairsM_ne h r _ _ _ _ (by omega) (by omega) ho hop hr
    rename_i hc
    have hne : k ≠ q := fun e => hc (.inl (by rw [e, h]; omega))
    split at hr
    · cases hr
    split at hr
    · refine pairsM_ne h r _ _ _ _ (by omega) (by omega) ho (fun x hx => ?_) hr
      rcases List.mem_append.mp hx with hx | hx
      · exact hop x hx
      · rw [List.mem_singleton.mp hx]; exact hne
    split at hr
    · rename_i j hj
      have hjl := findJ_lt _ _ hj
      refine pairsM_ne h r _ _ _ _ (by omega) (by omega) (fun x hx => ?_) (fun x hx => hop x (List.mem_of_mem_take hx)) hr
      rcases List.mem_append.mp hx with hx | hx
      · exact ho x hx
      · rw [List.mem_singleton.mp hx]; exact ⟨hop (rd2 op j) (rd2_mem hjl), hne⟩
    · exact pairsM_ne h r _ _ _ _ (by omega) (by omega) ho hop hr
theorem trailM_keep {f : List Int} {to : Int} (hf : rd f q ≠ 8) : ∀ (r : Nat) (k : Int) (N : List Int), 0 ≤ k → k + r ≤ n → rd (trailM (iota n) f to r k N) q = rd N q
  | 0, _, _, _, _ => rfl
  | r + 1, k, N, h0, h1 => by
    push_cast at h1
    simp only [trailM]
    split
    · rename_i hc
      rw [rd_iota h0 (by omega)] at hc
      have hne : k ≠ q := fun e => hf (by rw [← e]; exact hc)
      rw [trailM_keep hf r _ _ (by omega) (by omega), become_ne hq h0 (by omega) hne]
    · rfl
theorem bothM_keep {f : List Int} {to : Int} (hf : rd f q ≠ 8) : ∀ (is : List Int) (N : List Int), (∀ i ∈ is, 0 ≤ i ∧ i < n ∧ i ≠ q) → rd (bothM (iota n) f to is N) q = rd N q
  | [], _, _ => rfl
  | i :: is, N, h => by
    have h2 := h i List.mem_cons_self
    simp only [bothM]
    rw [bothM_keep hf is _ (fun j hj => h j (List.mem_cons_of_mem _ hj)), iota_length, trailM_keep hq hf _ _ _ (by omega) (by omega), become_ne hq h2.1 h2.2.1 h2.2.2]
theorem bracM_keep {f : List Int} {dir st : Int} (hf : rd f q ≠ 8) : ∀ (P : List (Int × Int)) (N : List Int), PairOk n P → (∀ x ∈ P, x.1 ≠ q ∧ x.2 ≠ q) → rd (bracM (iota n) f dir st P N) q = rd N q
  | [], _, _, _ => rfl
  | p :: P, N, hP, hne => by
    have hp := hP p List.mem_cons_self
    have hn := hne p List.mem_cons_self
    have hP2 : PairOk n P := fun x hx => hP x (List.mem_cons_of_mem _ hx)
    have hne2 : ∀ x ∈ P, x.1 ≠ q ∧ x.2 ≠ q := fun x hx => hne x (List.mem_cons_of_mem _ hx)
    have hm : ∀ i ∈ [p.1, p.2], 0 ≤ i ∧ i < n ∧ i ≠ q := fun i hi => by
      simp only [List.mem_cons, List.not_mem_nil, or_false] at hi
      rcases hi with rfl | rfl
      · exact ⟨hp.1, hp.2.1, hn.1⟩
      · exact ⟨hp.2.2.1, hp.2.2.2, hn.2⟩
    simp only [bracM]
    repeat' split
    · exact bracM_keep hf P _ hP2 hne2
    · rw [bracM_keep hf P _ hP2 hne2, bothM_keep hq hf _ _ hm]
    · rw [bracM_keep hf P _ hP2 hne2, bothM_keep hq hf _ _ hm]
theorem bracketsM_keep {Y : Exts} (hp : ∀ L, (Y.SM L).Perm L) {c f N : List Int} {lv st : Int} (h : rd N q = 10) (hf : rd f q ≠ 8) : rd (bracketsM Y c (iota n) f lv st N) q = 10 := by
  unfold bracketsM
  have hok := pairsR_ok (ro := 0) (C := c) (A := iota n) (N := N) hp
  rw [iota_length] at hok
  rw [bracM_keep hq hf _ _ hok]
  · exact h
  · intro x hx
    unfold pairsR at hx
    split at hx
    · rename_i out ho
      rw [iota_length] at ho
      exact pairsM_ne h n 0 [] [] out (Int.le_refl _) (by omega) (fun x h => by cases h) (fun x h => by cases h) ho x ((hp out).mem_iff.mp hx)
    · cases hx
/-- A neutral at the end takes the level's own direction, where that is the direction behind it. -/
theorem restN_last {st en lv : Int} (hen : en = lv % 2) (hqn : q + 1 = n) : ∀ (r : Nat) (a : Int) (N : List Int), 0 ≤ a → a ≤ q → q + 1 ≤ r + a → n ≤ N.length → rd N q = 10 → rd (rowsM isNeutral (neuM (iota n) st en lv) (iota n) r a N) q = lv % 2
  | 0, a, N, h0, h1, h2, _, _ => by omega
  | r + 1, a, N, h0, h1, h2, hl, h => by
    push_cast at h2
    simp only [rowsM]
    rw [iota_length, if_pos (by omega)]
    have hg := extM_rg isNeutral (B := iota n) (N := N) (n - a.toNat) a
    obtain ⟨hall, hstop⟩ := extM_all isNeutral (n := n) (N := N) (n - a.toNat) a h0 (by omega)
    generalize extM isNeutral (iota n) N (n - a.toNat) a = b at hg hall hstop
    have hneu : isNeutral 10 := .inl rfl
    by_cases hb : b = n
    · rw [if_pos (by omega)]
      have hend : ∀ N', rowsM isNeutral (neuM (iota n) st en lv) (iota n) r (b + 1) N' = N' := fun N' => by
        refine rowsM_end _ _ _ ?_
        rw [iota_length]; omega
      rw [hend]
      unfold neuM
      rw [allM_eq hq _ _ _ h0 (by omega) h1 (by omega) hl]
      unfold neuTo
      rw [iota_length, if_neg (show ¬ b < (n : Int) by omega)]
      split
      · rename_i he; rw [he, hen]
      · rfl
    · have hbq : b < q := by
        have h3 := hstop (by omega)
        by_cases e : b = q
        · rw [e, h] at h3; exact absurd hneu h3
        · omega
      split
      · refine restN_last hen hqn r _ _ (by omega) (by omega) (by omega) (by rw [neuM_length]; exact hl) ?_
        unfold neuM
        rw [allM_ne hq _ _ _ h0 (by omega) (by omega)]; exact h
      · exact restN_last hen hqn r _ _ (by omega) (by omega) (by omega) hl h
theorem bumpM_last {N : List Int} {lv : Int} (hqn : q < n) (hN : rd N q = lv % 2) (hlv : 0 ≤ lv) : ∀ (r : Nat) (k : Int) (L : List Int), 0 ≤ k → k + r ≤ n → rd (bumpM (iota n) N lv r k L) q = rd L q
  | 0, _, _, _, _ => rfl
  | r + 1, k, L, h0, h1 => by
    push_cast at h1
    simp only [bumpM]
    rw [rd_iota h0 (by omega), bumpM_last hqn hN hlv r _ _ (by omega) (by omega)]
    by_cases e : k = q
    · have hb : bumpOf lv (rd N k) (rd L k) = rd L k := by
        have ht : lv.tmod 2 = lv % 2 := Int.tmod_eq_emod_of_nonneg hlv
        rw [e, hN]
        unfold bumpOf
        rw [ht, if_neg (by omega), if_neg (by omega), if_neg (by omega)]
      rw [hb]
      have : L.set k.toNat (rd L k) = L := set_self
      rw [this]
    · exact set_ne h0 hq e
end

theorem own_last {Y : Exts} (hp : ∀ L, (Y.SM L).Perm L) {lv st en : Int} {c f v l : List Int} {q : Nat} (hv : v.length = q + 1) (h : rd v q = 10) (hf : rd f q = 10) (hen : en = lv % 2) (hlv : 0 ≤ lv) : rd (ownL Y lv st en c f v l) q = rd l q := by
  unfold ownL ownN
  rw [hv]
  have hlen : (bracketsM Y c (iota (q + 1)) f lv st (weakM (iota (q + 1)) f st v)).length = q + 1 := by
    unfold bracketsM
    rw [bracM_length, weakM_length, hv]
  have h2 := bracketsM_keep (n := q + 1) (q := (q : Int)) (by omega) hp (c := c) (lv := lv) (st := st) (weakM_keep (n := q + 1) (q := (q : Int)) (f := f) (st := st) (by omega) h) (by rw [hf]; omega)
  refine bumpM_last (by omega) (by push_cast; omega) ?_ hlv _ _ _ (by omega) (by omega)
  unfold restN
  rw [iota_length]
  exact restN_last (by omega) hen (by push_cast; omega) _ _ _ (by omega) (by omega) (by push_cast; omega) (by rw [hlen]; exact Nat.le_refl _) h2
end Go.Proofs.Ythkklpegjcnjoaa

namespace Go.Proofs.Ythkklpegjcnjoaa
open Go.Ab
set_option linter.unusedVariables false
set_option linter.unusedSimpArgs false

/-! ### The sequence that ends with the text's last separator -/

theorem part_last {O : List Int} {k j : Int} (h0 : 0 ≤ k) (hk : k < j) (hj : j ≤ O.length) : partI O k j = partI O k (j - 1) ++ [rd O (j - 1)] := by
  unfold partI
  rw [show j.toNat - k.toNat = ((j - 1).toNat - k.toNat) + 1 by omega, List.take_add_one, List.getElem?_drop, List.getElem?_eq_getElem (by omega), rd_at (by omega) (by omega)]
  simp only [Option.toList_some]
  congr 2
  simp only [show k.toNat + ((j - 1).toNat - k.toNat) = (j - 1).toNat by omega]
structure SeqJ (F L M O : List Int) (b k : Int) (E : List SE) (G : Int → Option Nat) : Prop where
  i : SeqI F L M O k E G
  en : ∀ e ∈ E, ∀ A0 x, e.A = A0 ++ [x] → rd F x = 10 → e.en = maxI e.lv b % 2
  ls : k = 0 ∨ ∃ e ∈ E, ∃ A0, e.A = A0 ++ [rd O (k - 1)]
theorem SeqJ.step {F L M O : List Int} {b k j : Int} {E : List SE} {G : Int → Option Nat} (h : SeqJ F L M O b k E G) (h0 : 0 ≤ k) (hk : k < j) (hj : j ≤ O.length) (hl : ∀ p : Int, k ≤ p → p < j → rd L (rd O p) = rd L (rd O k))
    (hO : ∀ x ∈ O, 0 ≤ x ∧ x < F.length) (hM : ∀ o : Int, 0 ≤ o → o < F.length → isOpener (rd F o) → rd M o < 0 ∨ rd L (rd M o) = rd L o) {i : Nat} (hi : i < E.length) (hlv : E[i].lv = rd L (rd O k)) :
    SeqJ F L M O b j (stepE F L b O k j i E) (openG F M O j i G) := by
  have hg : E.getD i default = E[i] := by rw [List.getD_eq_getElem?_getD, List.getElem?_eq_getElem hi]; rfl
  refine { i := h.i.step h0 hk hj hl hO hM hi hlv, en := fun e he A0 x hA hx => ?_, ls := .inr ⟨growE F L b O k j E[i], ?_, E[i].A ++ partI O k (j - 1), ?_⟩ }
  · unfold stepE at he
    rcases List.mem_or_eq_of_mem_set he with he | he
    · exact h.en e he A0 x hA hx
    · subst he
      rw [hg] at hA ⊢
      simp only [growE] at hA ⊢
      rw [part_last h0 hk hj, ← List.append_assoc] at hA
      have hxe := (List.append_inj' hA rfl).2
      cases hxe
      have : afterM F L b O j = b := by unfold afterM; rw [if_neg (fun h => h.2.2 hx)]
      rw [this]
  · unfold stepE
    rw [hg]
    exact List.mem_set hi _
  · simp only [growE]
    rw [part_last h0 hk hj, List.append_assoc]
theorem seqsM_fin {F L M O : List Int} {b : Int} (hO : ∀ x ∈ O, 0 ≤ x ∧ x < F.length) (hM : ∀ o : Int, 0 ≤ o → o < F.length → isOpener (rd F o) → rd M o < 0 ∨ rd L (rd M o) = rd L o) :
    ∀ (n : Nat) (k : Int) (E : List SE) (G : Int → Option Nat), SeqJ F L M O b k E G → 0 ≤ k → k ≤ O.length → O.length + 1 ≤ n + k → ∃ G', SeqJ F L M O b O.length (seqsM F L M b O n k E G) G'
  | 0, k, E, G, h, h0, h1, h2 => by omega
  | n + 1, k, E, G, h, h0, h1, h2 => by
    simp only [seqsM]
    split
    · rename_i hlt
      have hgt := runEnd_gt (F := F) (L := L) (O := O) (k := k) (r := O.length - k.toNat) (by omega)
      have hle := (runEnd_ge (F := F) (L := L) (O := O) (k := k) (O.length - k.toNat) k).2
      have hl := runEnd_lv (F := F) (L := L) (O := O) (k := k) (O.length - k.toNat) k (fun p a b => by omega)
      generalize runEnd F L O k (O.length - k.toNat) k = j at hgt hle hl
      split
      · rename_i i hG
        obtain ⟨h1, h2⟩ := h.i.g _ _ hG
        exact seqsM_fin hO hM n j _ _ (h.step h0 hgt (by omega) hl hO hM h1 h2) (by omega) (by omega) (by omega)
      · have hE : SeqJ F L M O b k (E ++ [newE F L b O k]) G := {
          i := {
            lv := fun e he p hp => by
              rcases List.mem_append.mp he with he | he
              · exact h.i.lv e he p hp
              · rw [List.mem_singleton.mp he] at hp; simp [newE] at hp
            pm := by rw [List.flatMap_append]; simpa [newE] using h.i.pm
            g := fun x i hx => by
              obtain ⟨h1, h2⟩ := h.i.g x i hx
              exact ⟨by simp; omega, by rw [List.getElem_append_left h1]; exact h2⟩ }
          en := fun e he A0 x hA hx => by
            rcases List.mem_append.mp he with he | he
            · exact h.en e he A0 x hA hx
            · rw [List.mem_singleton.mp he] at hA; simp [newE] at hA
          ls := by
            rcases h.ls with h | ⟨e, he, r⟩
            · exact .inl h
            · exact .inr ⟨e, List.mem_append_left _ he, r⟩ }
        refine seqsM_fin hO hM n j _ _ (hE.step h0 hgt (by omega) hl hO hM (i := E.length) (by simp) ?_) (by omega) (by omega) (by omega)
        rw [List.getElem_append_right (Nat.le_refl _)]
        simp [newE]
    · have hke : k = O.length := by omega
      rw [← hke]
      exact ⟨G, h⟩

theorem et_fr (D : TD) : ∀ (r : Nat) (i : Int) (x : XS) (L N : List Int) (p : Int), 0 ≤ i → i + r ≤ p → rd (et D r i x L N).2.2 p = rd N p
  | 0, _, _, _, _, _, _, _ => rfl
  | r + 1, i, x, L, N, p, h0, hp => by
    push_cast at hp
    simp only [et]
    rw [et_fr D r (i + 1) _ _ _ p (by omega) (by omega)]
    unfold expN
    split
    · unfold plainN
      split
      · exact set_ne h0 (by omega) (by omega)
      · rfl
    · rfl
/-- The last separator's explicit level and class. -/
theorem expl_last {Fa : List Int} {m : Nat} {b : Int} (hm : Fa.length = m + 1) (hl : rd Fa m = 10) : rd (explM Fa b).1 m = b ∧ rd (explM Fa b).2 m = 10 := by
  have e : explM Fa b = (et (pureD Fa (matchesM Fa) b) (m + 1) 0 ⟨[(b, -1, false)], 0, 0, 0⟩ (List.replicate Fa.length 0) Fa).2 := by unfold explM; rw [← et_exp, hm]
  rw [e, et_add, Int.zero_add]
  have hlen := et_len (pureD Fa (matchesM Fa) b) m 0 ⟨[(b, -1, false)], 0, 0, 0⟩ (List.replicate Fa.length 0) Fa
  have hfr := et_fr (pureD Fa (matchesM Fa) b) m 0 ⟨[(b, -1, false)], 0, 0, 0⟩ (List.replicate Fa.length 0) Fa m (Int.le_refl _) (by omega)
  generalize et (pureD Fa (matchesM Fa) b) m 0 ⟨[(b, -1, false)], 0, 0, 0⟩ (List.replicate Fa.length 0) Fa = W at hlen hfr
  simp only [et]
  have h1 : ¬ isEmb 10 := by unfold isEmb; omega
  have h2 : ¬ isOpener 10 := by unfold isOpener; omega
  have hT : expT (pureD Fa (matchesM Fa) b) m W.1 = some (b, -1, false) := by
    have hF : rd (pureD Fa (matchesM Fa) b).F m = 10 := hl
    unfold expT
    rw [hF, if_neg h1, if_neg h2, if_neg (by omega), if_neg (by omega), if_pos rfl]; rfl
  unfold expL expN
  rw [hT]
  simp only [plainL, plainN]
  refine ⟨?_, ?_⟩
  · rw [rd_set (by omega) (by omega) (by rw [hlen.1]; simp; omega), if_pos rfl]
  · rw [if_neg (by omega), hfr]; exact hl

/-! ### All sequences, here and there -/

theorem shS_zero (e : SE) : shS 0 e = e := by unfold shS; simp
theorem vw_sh {A X X' : List Int} {s : Int} (h : ∀ p ∈ A, rd X' (p + s) = rd X p) : vw (A.map (· + s)) X' = vw A X := by
  unfold vw; rw [List.map_map]; exact List.map_congr_left h
theorem Vi.ex {A N0 N v : List Int} (h : Vi A N0 N v) : Vi A N0 N (vw A N) := ⟨h.len, rfl, h.fr⟩

structure Rels (s : Int) (P C F N L C' F' N' L' : List Int) : Prop where
  c : ∀ p ∈ P, rd C' (p + s) = rd C p
  f : ∀ p ∈ P, rd F' (p + s) = rd F p
  n : ∀ p ∈ P, rd N' (p + s) = rd N p
  l : ∀ p ∈ P, rd L' (p + s) = rd L p

theorem seqAll_rel {Y : Exts} (hp : ∀ L, (Y.SM L).Perm L) {s : Int} {C F C' F' : List Int} : ∀ (E : List SE) (N L N' L' : List Int), (E.flatMap SE.A).Nodup → (∀ p ∈ E.flatMap SE.A, 0 ≤ p ∧ p < N.length ∧ p < L.length ∧ 0 ≤ p + s ∧ p + s < N'.length ∧ p + s < L'.length) →
    Rels s (E.flatMap SE.A) C F N L C' F' N' L' →
    (∀ p ∈ E.flatMap SE.A, rd (seqAllM Y C' F' (E.map (shS s)) N' L').2 (p + s) = rd (seqAllM Y C F E N L).2 p) ∧
    (∀ q : Int, 0 ≤ q → q ∉ E.flatMap SE.A → rd (seqAllM Y C F E N L).2 q = rd L q ∧ rd (seqAllM Y C F E N L).1 q = rd N q) ∧
    (∀ q : Int, 0 ≤ q → (∀ p ∈ E.flatMap SE.A, q ≠ p + s) → rd (seqAllM Y C' F' (E.map (shS s)) N' L').2 q = rd L' q ∧ rd (seqAllM Y C' F' (E.map (shS s)) N' L').1 q = rd N' q) ∧
    (seqAllM Y C F E N L).2.length = L.length ∧ (seqAllM Y C' F' (E.map (shS s)) N' L').2.length = L'.length ∧ (seqAllM Y C' F' (E.map (shS s)) N' L').1.length = N'.length
  | [], N, L, N', L', _, _, _ => ⟨(fun p h => by cases h), fun _ _ _ => ⟨rfl, rfl⟩, fun _ _ _ => ⟨rfl, rfl⟩, rfl, rfl, rfl⟩
  | e :: E, N, L, N', L', hn, hr, h => by
    rw [List.flatMap_cons] at hn hr h
    obtain ⟨nA, nE, nd⟩ := List.nodup_append.mp hn
    have hA : ∀ p ∈ e.A, _ := fun p hp => hr p (List.mem_append_left _ hp)
    have hE : ∀ p ∈ E.flatMap SE.A, _ := fun p hp => hr p (List.mem_append_right _ hp)
    have nA' : (e.A.map (· + s)).Nodup := List.Pairwise.map _ (fun a b (h : a ≠ b) e => h (by have e2 : a + s = b + s := e; omega)) nA
    have mA' : ∀ x ∈ e.A.map (· + s), ∃ p ∈ e.A, x = p + s := fun x hx => by obtain ⟨p, hp, rfl⟩ := List.mem_map.mp hx; exact ⟨p, hp, rfl⟩
    obtain ⟨sN, sL⟩ := seqStep_vi (C := C) (F := F) (N := N) (L := L) (N0 := N) (L0 := L) (e := e) hp ⟨nA, fun p hp => ⟨(hA p hp).1, (hA p hp).2.1⟩⟩ ⟨nA, fun p hp => ⟨(hA p hp).1, (hA p hp).2.2.1⟩⟩ (Vi.refl _ _) (Vi.refl _ _)
    obtain ⟨sN', sL'⟩ := seqStep_vi (Y := Y) (C := C') (F := F') (N := N') (L := L') (N0 := N') (L0 := L') (e := shS s e) hp ⟨nA', fun x hx => by obtain ⟨p, hp, rfl⟩ := mA' x hx; exact ⟨(hA p hp).2.2.2.1, (hA p hp).2.2.2.2.1⟩⟩ ⟨nA', fun x hx => by obtain ⟨p, hp, rfl⟩ := mA' x hx; exact ⟨(hA p hp).2.2.2.1, (hA p hp).2.2.2.2.2⟩⟩ (Vi.refl _ _) (Vi.refl _ _)
    have eC : vw (shS s e).A C' = vw e.A C := vw_sh fun p hp => h.c p (List.mem_append_left _ hp)
    have eF : vw (shS s e).A F' = vw e.A F := vw_sh fun p hp => h.f p (List.mem_append_left _ hp)
    have eN : vw (shS s e).A N' = vw e.A N := vw_sh fun p hp => h.n p (List.mem_append_left _ hp)
    have eL : vw (shS s e).A L' = vw e.A L := vw_sh fun p hp => h.l p (List.mem_append_left _ hp)
    have el : (shS s e).lv = e.lv := rfl
    have es : (shS s e).st = e.st := rfl
    have ee : (shS s e).en = e.en := rfl
    rw [eC, eF, eN, eL, el, es, ee] at sL'
    rw [eC, eF, eN, el, es, ee] at sN'
    simp only [seqAllM, List.map_cons]
    have hvl := sL'.v.symm.trans sL.v
    have hatA : ∀ p ∈ e.A, rd (seqStepM Y C' F' (shS s e) N' L').2 (p + s) = rd (seqStepM Y C F e N L).2 p := fun p hp => by
      obtain ⟨t, ht, rfl⟩ := List.mem_iff_getElem.mp hp
      have h1 := congrArg (fun v => v[t]?) hvl
      simp only [vw, shS, List.getElem?_map, List.getElem?_eq_getElem ht, Option.map_some] at h1
      exact Option.some.inj h1
    have hneq : ∀ p ∈ E.flatMap SE.A, p ∉ e.A := fun p hp h => nd p h p hp rfl
    have hneq' : ∀ p ∈ E.flatMap SE.A, p + s ∉ (shS s e).A := fun p hp h => by
      obtain ⟨p', hp', e⟩ := mA' _ h
      have : p = p' := by omega
      subst this
      exact hneq p hp hp'
    have h2 : Rels s (E.flatMap SE.A) C F (seqStepM Y C F e N L).1 (seqStepM Y C F e N L).2 C' F' (seqStepM Y C' F' (shS s e) N' L').1 (seqStepM Y C' F' (shS s e) N' L').2 := {
      c := fun p hp => h.c p (List.mem_append_right _ hp)
      f := fun p hp => h.f p (List.mem_append_right _ hp)
      n := fun p hp => by rw [sN'.fr _ (hE p hp).2.2.2.1 (hneq' p hp), sN.fr _ (hE p hp).1 (hneq p hp)]; exact h.n p (List.mem_append_right _ hp)
      l := fun p hp => by rw [sL'.fr _ (hE p hp).2.2.2.1 (hneq' p hp), sL.fr _ (hE p hp).1 (hneq p hp)]; exact h.l p (List.mem_append_right _ hp) }
    obtain ⟨g1, g2, g3, g4, g5, g6⟩ := seqAll_rel hp E _ _ _ _ nE (fun p hp => by
      have := hE p hp
      rw [sN.len, sL.len, sN'.len, sL'.len]; exact this) h2
    refine ⟨fun p hp => ?_, fun q q0 hq => ?_, fun q q0 hq => ?_, by rw [g4, sL.len], by rw [g5, sL'.len], by rw [g6, sN'.len]⟩
    · rcases List.mem_append.mp hp with hp | hp
      · have hpn : p ∉ E.flatMap SE.A := fun h => hneq p h hp
        rw [(g2 p (hA p hp).1 hpn).1, (g3 (p + s) (hA p hp).2.2.2.1 (fun p' hp' e => hpn (by rw [show p = p' by omega]; exact hp'))).1]
        exact hatA p hp
      · exact g1 p hp
    · have h3 : q ∉ e.A := fun h => hq (List.mem_append_left _ h)
      have h4 : q ∉ E.flatMap SE.A := fun h => hq (List.mem_append_right _ h)
      rw [(g2 q q0 h4).1, (g2 q q0 h4).2, sL.fr q q0 h3, sN.fr q q0 h3]; exact ⟨rfl, rfl⟩
    · have h3 : q ∉ (shS s e).A := fun h => by obtain ⟨p, hp, e⟩ := mA' _ h; exact hq p (List.mem_append_left _ hp) e
      have h4 := g3 q q0 fun p hp => hq p (List.mem_append_right _ hp)
      rw [h4.1, h4.2, sL'.fr q q0 h3, sN'.fr q q0 h3]; exact ⟨rfl, rfl⟩
theorem seqAll_append {Y : Exts} {C F : List Int} : ∀ (E E2 : List SE) (N L : List Int), seqAllM Y C F (E ++ E2) N L = seqAllM Y C F E2 (seqAllM Y C F E N L).1 (seqAllM Y C F E N L).2
  | [], _, _, _ => rfl
  | e :: E, E2, N, L => by simp only [List.cons_append, seqAllM]; exact seqAll_append E E2 _ _
end Go.Proofs.Ythkklpegjcnjoaa

namespace Go.Proofs.Ythkklpegjcnjoaa
open Go.Ab
set_option linter.unusedVariables false
set_option linter.unusedSimpArgs false

/-! ### The ends -/

def e1 (F : List Int) : Nat → Int → Int → List Int → Int × List Int
  | 0, _, last, L => (last, L)
  | r + 1, i, last, L => if isRemoved (rd F i) then e1 F r (i + 1) (rd (L.set i.toNat last) i) (L.set i.toNat last) else e1 F r (i + 1) (rd L i) L
theorem e1_ends (F : List Int) : ∀ (r : Nat) (i last : Int) (L : List Int), (e1 F r i last L).2 = ends1M F r i last L
  | 0, _, _, _ => rfl
  | r + 1, i, last, L => by
    simp only [e1, ends1M]
    split
    · exact e1_ends F r _ _ _
    · exact e1_ends F r _ _ _
theorem e1_add (F : List Int) : ∀ (r q : Nat) (i last : Int) (L : List Int), e1 F (r + q) i last L = e1 F q (i + r) (e1 F r i last L).1 (e1 F r i last L).2
  | 0, q, i, last, L => by simp [e1]
  | r + 1, q, i, last, L => by
    rw [show r + 1 + q = (r + q) + 1 by omega]
    simp only [e1]
    split
    · rw [e1_add F r q (i + 1), show i + 1 + (r : Int) = i + ((r + 1 : Nat) : Int) by omega]
    · rw [e1_add F r q (i + 1), show i + 1 + (r : Int) = i + ((r + 1 : Nat) : Int) by omega]
theorem e1_len (F : List Int) (r : Nat) (i last : Int) (L : List Int) : (e1 F r i last L).2.length = L.length := by rw [e1_ends]; exact ends1M_length _ _ _ _

theorem e1_rel {F F' : List Int} {s hi : Int} {L0 : List Int} (hs : 0 ≤ s) : ∀ (r : Nat) (i last : Int) (L L' : List Int), 0 ≤ i → i + r ≤ hi → (∀ t : Int, i ≤ t → t < i + r → rd F' (t + s) = rd F t) → hi ≤ L.length → hi + s ≤ L'.length → AR s 0 hi L L' → OR s 0 hi L0 L' →
    (e1 F' r (i + s) last L').1 = (e1 F r i last L).1 ∧ AR s 0 hi (e1 F r i last L).2 (e1 F' r (i + s) last L').2 ∧ OR s 0 hi L0 (e1 F' r (i + s) last L').2
  | 0, i, last, L, L', _, _, _, _, _, h, h2 => ⟨rfl, h, h2⟩
  | r + 1, i, last, L, L', h0, h1, hF, hl, hl', h, h2 => by
    push_cast at h1
    simp only [e1]
    rw [hF i (Int.le_refl _) (by push_cast; omega), show i + s + 1 = i + 1 + s by omega]
    have hF2 : ∀ t : Int, i + 1 ≤ t → t < i + 1 + r → rd F' (t + s) = rd F t := fun t a c => hF t (by omega) (by push_cast; omega)
    have hset := h.set (i := i) (v := last) (Int.le_refl _) (by omega) h0 (by omega) (by omega)
    have hset2 := h2.set (i := i) (v := last) (by omega) h0 (by omega) (by omega)
    split
    · rw [hset i h0 (by omega)]
      exact e1_rel hs r (i + 1) _ _ _ (by omega) (by omega) hF2 (by rw [List.length_set]; exact hl) (by rw [List.length_set]; exact hl') hset hset2
    · rw [h i h0 (by omega)]
      exact e1_rel hs r (i + 1) _ _ _ (by omega) (by omega) hF2 hl hl' h h2

theorem e2_high {F F' : List Int} {n : Nat} {b : Int} : ∀ (k : Nat) (t : Bool) (L L' : List Int), (∀ p : Int, 0 ≤ p → p < k → rd F' (p + n) = rd F p) → k ≤ L.length → n + L.length ≤ L'.length → AR n 0 L.length L L' →
    ∃ t'' L'', ends2M F' b (n + k) t L' = ends2M F' b n t'' L'' ∧ AR n 0 L.length (ends2M F b k t L) L'' ∧ OR n 0 L.length L' L'' ∧ L''.length = L'.length
  | 0, t, L, L', _, _, _, h => ⟨t, L', rfl, h, fun _ _ _ => rfl, rfl⟩
  | k + 1, t, L, L', hF, hk, hl, h => by
    have ek : rd F' ((n + k : Nat) : Int) = rd F k := by
      have := hF (k : Int) (by omega) (by push_cast; omega)
      rw [← this]; congr 1; omega
    rw [show n + (k + 1) = (n + k) + 1 by omega]
    simp only [ends2M]
    rw [ek]
    by_cases c : tailOf (rd F k) t = true
    · rw [if_pos c, if_pos c]
      have hs := h.set (i := (k : Int)) (v := b) (Int.le_refl _) (by omega) (by omega) (by omega) (by omega)
      have hs2 : OR n 0 L.length L' (L'.set ((k : Int) + n).toNat b) := OR.set (i := (k : Int)) (fun _ _ _ => rfl) (by omega) (by omega) (by omega) (by omega)
      rw [Int.toNat_natCast, show ((k : Int) + (n : Int)).toNat = n + k by omega] at hs
      rw [show ((k : Int) + (n : Int)).toNat = n + k by omega] at hs2
      obtain ⟨t'', L'', g1, g2, g3, g4⟩ := e2_high k (tailOf (rd F k) t) (L.set k b) (L'.set (n + k) b) (fun p a c => hF p a (by push_cast; omega)) (by rw [List.length_set]; omega) (by rw [List.length_set, List.length_set]; exact hl) (by rw [List.length_set]; exact hs)
      rw [List.length_set] at g2 g3 g4
      exact ⟨t'', L'', g1, g2, fun q a c => by rw [g3 q a c]; exact hs2 q a c, g4⟩
    · rw [if_neg c, if_neg c]
      exact e2_high k (tailOf (rd F k) t) L L' (fun p a c => hF p a (by push_cast; omega)) (by omega) hl h
theorem e2_low {F F' : List Int} {b : Int} : ∀ (r : Nat) (t : Bool) (L L' : List Int), (∀ p : Int, 0 ≤ p → p < r → rd F' p = rd F p) → r ≤ L.length → L.length ≤ L'.length → AR 0 0 L.length L L' → AR 0 0 L.length (ends2M F b r t L) (ends2M F' b r t L') ∧ OR 0 0 L.length L' (ends2M F' b r t L')
  | 0, t, L, L', _, _, _, h => ⟨h, fun _ _ _ => rfl⟩
  | r + 1, t, L, L', hF, hr, hl, h => by
    simp only [ends2M]
    rw [hF (r : Int) (by omega) (by push_cast; omega)]
    by_cases c : tailOf (rd F r) t = true
    · rw [if_pos c, if_pos c]
      have hs := h.set (i := (r : Int)) (v := b) (Int.le_refl _) (by omega) (by omega) (by omega) (by omega)
      have hs2 : OR 0 0 L.length L' (L'.set ((r : Int) + 0).toNat b) := OR.set (i := (r : Int)) (fun _ _ _ => rfl) (by omega) (by omega) (by omega) (by omega)
      rw [Int.add_zero, Int.toNat_natCast] at hs hs2
      have := e2_low (b := b) r (tailOf (rd F r) t) (L.set r b) (L'.set r b) (fun p a c => hF p a (by push_cast; omega)) (by rw [List.length_set]; omega) (by rw [List.length_set, List.length_set]; exact hl) (by rw [List.length_set]; exact hs)
      rw [List.length_set] at this
      exact ⟨this.1, fun q a c => by rw [this.2 q a c]; exact hs2 q a c⟩
    · rw [if_neg c, if_neg c]
      exact e2_low (b := b) r (tailOf (rd F r) t) L L' (fun p a c => hF p a (by push_cast; omega)) (by omega) hl h

theorem list_rd {L M : List Int} (hl : L.length = M.length) (h : ∀ p : Int, 0 ≤ p → p < L.length → rd L p = rd M p) : L = M := by
  refine List.ext_getElem hl fun k h1 h2 => ?_
  have := h (k : Int) (by omega) (by omega)
  rw [rd_at (by omega) (by omega), rd_at (by omega) (by omega)] at this
  simpa using this

/-- What stands behind a separator has the levels that it has alone. -/
theorem levels_app {Y : Exts} (hp : ∀ L, (Y.SM L).Perm L) {Ca Cb : List Int} {b : Int} {m : Nat} (hb : 0 ≤ b ∧ b ≤ 1) (hm : Ca.length = m + 1) (hl : rd (Ca.map Y.LB) m = 10) : levelsM Y (Ca ++ Cb) b = levelsM Y Ca b ++ levelsM Y Cb b := by
  have hbO : ∀ F : List Int, bOf b F = b := fun F => by unfold bOf; rw [if_neg (by omega)]
  unfold levelsM
  simp only [hbO, List.map_append]
  have hFa : (Ca.map Y.LB).length = Ca.length := List.length_map _
  have hFb : (Cb.map Y.LB).length = Cb.length := List.length_map _
  generalize Ca.map Y.LB = Fa at hFa hl
  generalize Cb.map Y.LB = Fb at hFb
  have hm' : Fa.length = m + 1 := by omega
  have hn : ((Fa ++ Fb).length : Int) = Fa.length + Fb.length := by simp
  obtain ⟨ma, mb⟩ := matches_app (Fb := Fb) hm' hl
  obtain ⟨xa, xb⟩ := expl_app (Fb := Fb) (b := b) hm' hl
  rw [sequences_app (Fb := Fb) (La := (explM Fa b).1) (Lb := (explM Fb b).1) (b := b) hm' hl (fun p a c => (xa p a c).1) (fun p a c => (xb p a c).1)]
  have hlast := expl_last (b := b) hm' hl
  have lX : (explM (Fa ++ Fb) b).1.length = (Fa ++ Fb).length ∧ (explM (Fa ++ Fb) b).2.length = (Fa ++ Fb).length := by unfold explM; rw [(expM_length _ _ _ _ _).1, (expM_length _ _ _ _ _).2]; simp
  have lA : (explM Fa b).1.length = Fa.length ∧ (explM Fa b).2.length = Fa.length := by unfold explM; rw [(expM_length _ _ _ _ _).1, (expM_length _ _ _ _ _).2]; simp
  have lB : (explM Fb b).1.length = Fb.length ∧ (explM Fb b).2.length = Fb.length := by unfold explM; rw [(expM_length _ _ _ _ _).1, (expM_length _ _ _ _ _).2]; simp
  -- what is known of a text's sequences
  have known : ∀ F : List Int, (explM F b).1.length = F.length → ∃ G', SeqJ F (explM F b).1 (matchesM F) (orderM F F.length 0 []) b (orderM F F.length 0 []).length (sequencesM F (explM F b).1 (matchesM F) b) G' ∧ (orderM F F.length 0 []).Nodup ∧ ∀ x ∈ orderM F F.length 0 [], 0 ≤ x ∧ x < F.length := fun F hlen => by
    have hI : LinkI (pureD F (matchesM F) b) 0 ⟨[(b, -1, false)], 0, 0, 0⟩ (List.replicate F.length 0) [] (List.replicate F.length 0) :=
      { ne := by simp, op := Int.le_refl _, is := rfl, lv := fun e he => (by rw [List.mem_singleton.mp he]; dsimp only; omega), og := rfl, pl := fun o ho => (by cases ho), bd := fun j => (by rw [rep_zero]; omega), lk := fun o a b => (by omega) }
    obtain ⟨x', Og', hL⟩ := expM_link (D := pureD F (matchesM F) b) hb F.length 0 ⟨[(b, -1, false)], 0, 0, 0⟩ (List.replicate F.length 0) F [] (List.replicate F.length 0) hI (Int.le_refl _) (by simp) (by simp)
    have hlk : ∀ o : Int, 0 ≤ o → o < F.length → isOpener (rd F o) → rd (matchesM F) o < 0 ∨ rd (explM F b).1 (rd (matchesM F) o) = rd (explM F b).1 o := fun o a c op => by
      rcases hL.lk o a (by omega) op with h | h
      · exact .inl h
      · exact .inr h.2.2
    obtain ⟨hOn, hOr⟩ := orderM_ok (F := F) F.length 0 [] (by simp) (fun x h => by cases h) (Int.le_refl _)
    have hS0 : SeqJ F (explM F b).1 (matchesM F) (orderM F F.length 0 []) b 0 [] (fun _ => none) := { i := { lv := fun e he => (by cases he), pm := (by simp), g := fun x i h => (by cases h) }, en := fun e he => (by cases he), ls := .inl rfl }
    obtain ⟨G', hG⟩ := seqsM_fin (fun x h => by have := hOr x h; omega) hlk ((orderM F F.length 0 []).length + 1) 0 [] _ hS0 (Int.le_refl _) (by omega) (by omega)
    exact ⟨G', hG, hOn, fun x h => by have := hOr x h; omega⟩
  obtain ⟨Ga, ja, na, ra⟩ := known Fa lA.1
  obtain ⟨Gb, jb, nb, rb⟩ := known Fb lB.1
  obtain ⟨P, hP⟩ := order_last hm' hl
  -- the sequence of the last separator
  have hlv : ∃ e ∈ sequencesM Fa (explM Fa b).1 (matchesM Fa) b, ∃ A0, e.A = A0 ++ [(m : Int)] ∧ e.lv = b ∧ e.en = b % 2 := by
    rcases ja.ls with h | ⟨e, he, A0, hA⟩
    · rw [hP] at h; simp at h; omega
    · have hx : rd (orderM Fa Fa.length 0 []) ((orderM Fa Fa.length 0 []).length - 1) = m := by
        rw [hP, rd_at (by simp) (by simp; omega)]; simp
      rw [hx] at hA
      have h1 := ja.i.lv e he (m : Int) (by rw [hA]; simp)
      rw [hlast.1] at h1
      have h2 := ja.en e he A0 _ hA hl
      refine ⟨e, he, A0, hA, h1.symm, ?_⟩
      rw [h2, ← h1]
      unfold maxI; rw [if_neg (by omega)]
  have pa := ja.i.pm
  have pb := jb.i.pm
  rw [show ((orderM Fa Fa.length 0 []).length : Int).toNat = (orderM Fa Fa.length 0 []).length by omega, List.take_length] at pa
  rw [show ((orderM Fb Fb.length 0 []).length : Int).toNat = (orderM Fb Fb.length 0 []).length by omega, List.take_length] at pb
  have dna := pa.nodup_iff.mpr na
  have dnb := pb.nodup_iff.mpr nb
  have rga : ∀ p ∈ (sequencesM Fa (explM Fa b).1 (matchesM Fa) b).flatMap SE.A, 0 ≤ p ∧ p < Fa.length := fun p h => ra p (pa.mem_iff.mp h)
  have rgb : ∀ p ∈ (sequencesM Fb (explM Fb b).1 (matchesM Fb) b).flatMap SE.A, 0 ≤ p ∧ p < Fb.length := fun p h => rb p (pb.mem_iff.mp h)
  clear ja jb pa pb na nb ra rb known hP
  generalize sequencesM Fa (explM Fa b).1 (matchesM Fa) b = Ea at hlv dna rga
  generalize sequencesM Fb (explM Fb b).1 (matchesM Fb) b = Eb at dnb rgb
  rw [seqAll_append]
  generalize (explM (Fa ++ Fb) b).1 = L at lX xa xb
  generalize (explM (Fa ++ Fb) b).2 = N at lX xa xb
  generalize (explM Fa b).1 = La at lA xa hlast
  generalize (explM Fa b).2 = Na at lA xa hlast
  generalize (explM Fb b).1 = Lb at lB xb
  generalize (explM Fb b).2 = Nb at lB xb
  -- the first text's sequences
  have r1 := seqAll_rel (Y := Y) hp (s := 0) (C := Ca) (F := Fa) (C' := Ca ++ Cb) (F' := Fa ++ Fb) Ea Na La N L dna (fun p h => by
      have := rga p h
      rw [lA.1, lA.2, lX.1, lX.2, hn]; omega)
    { c := fun p h => by rw [Int.add_zero]; exact rd_appl (rga p h).1 (by have := rga p h; omega)
      f := fun p h => by rw [Int.add_zero]; exact rd_appl (rga p h).1 (rga p h).2
      n := fun p h => by rw [Int.add_zero]; exact (xa p (rga p h).1 (rga p h).2).2
      l := fun p h => by rw [Int.add_zero]; exact (xa p (rga p h).1 (rga p h).2).1 }
  have em : Ea.map (shS 0) = Ea := by rw [List.map_congr_left (fun e _ => shS_zero e), List.map_id']
  rw [em] at r1
  obtain ⟨p1, p2, p3, p4, p5, p6⟩ := r1
  -- the separator's own level
  have hB : rd (seqAllM Y Ca Fa Ea Na La).2 m = b := by
    obtain ⟨e, he, A0, hA, h1, h2⟩ := hlv
    obtain ⟨E1, E2, rfl⟩ := List.append_of_mem he
    rw [seqAll_append]
    simp only [seqAllM]
    rw [List.flatMap_append, List.flatMap_cons] at dna rga
    have d1 := List.nodup_append.mp dna
    have d2 := List.nodup_append.mp d1.2.1
    have q1 := seqAll_rel (Y := Y) hp (s := 0) (C := Ca) (F := Fa) (C' := Ca) (F' := Fa) E1 Na La Na La d1.1 (fun p h => by
        have := rga p (List.mem_append_left _ h)
        rw [lA.1, lA.2]; omega)
      { c := fun p h => by rw [Int.add_zero], f := fun p h => by rw [Int.add_zero], n := fun p h => by rw [Int.add_zero], l := fun p h => by rw [Int.add_zero] }
    have mA : (m : Int) ∈ e.A := by rw [hA]; simp
    have hE1 : ∀ p ∈ e.A, p ∉ E1.flatMap SE.A := fun p hp h => d1.2.2 p h p (List.mem_append_left _ hp) rfl
    have hlen1 : (seqAllM Y Ca Fa E1 Na La).2.length = La.length := q1.2.2.2.1
    have hlen2 : (seqAllM Y Ca Fa E1 Na La).1.length = Na.length := by
      have := q1.2.2.2.2.2
      have em1 : E1.map (shS 0) = E1 := by rw [List.map_congr_left (fun e _ => shS_zero e), List.map_id']
      rwa [em1] at this
    have hv : ∀ p ∈ e.A, 0 ≤ p ∧ p < Fa.length := fun p hp => rga p (List.mem_append_right _ (List.mem_append_left _ hp))
    obtain ⟨sN, sL⟩ := seqStep_vi (Y := Y) (C := Ca) (F := Fa) (N := (seqAllM Y Ca Fa E1 Na La).1) (L := (seqAllM Y Ca Fa E1 Na La).2) (N0 := (seqAllM Y Ca Fa E1 Na La).1) (L0 := (seqAllM Y Ca Fa E1 Na La).2) (e := e) hp ⟨d2.1, fun p hp => by have := hv p hp; rw [hlen2, lA.2]; omega⟩ ⟨d2.1, fun p hp => by have := hv p hp; rw [hlen1, lA.1]; omega⟩ (Vi.refl _ _) (Vi.refl _ _)
    have q2 := seqAll_rel (Y := Y) hp (s := 0) (C := Ca) (F := Fa) (C' := Ca) (F' := Fa) E2 (seqStepM Y Ca Fa e (seqAllM Y Ca Fa E1 Na La).1 (seqAllM Y Ca Fa E1 Na La).2).1 (seqStepM Y Ca Fa e (seqAllM Y Ca Fa E1 Na La).1 (seqAllM Y Ca Fa E1 Na La).2).2 (seqStepM Y Ca Fa e (seqAllM Y Ca Fa E1 Na La).1 (seqAllM Y Ca Fa E1 Na La).2).1 (seqStepM Y Ca Fa e (seqAllM Y Ca Fa E1 Na La).1 (seqAllM Y Ca Fa E1 Na La).2).2 d2.2.1 (fun p h => by
        have := rga p (List.mem_append_right _ (List.mem_append_right _ h))
        rw [sN.len, sL.len, hlen1, hlen2, lA.1, lA.2]; omega)
      { c := fun p h => by rw [Int.add_zero], f := fun p h => by rw [Int.add_zero], n := fun p h => by rw [Int.add_zero], l := fun p h => by rw [Int.add_zero] }
    rw [(q2.2.1 (m : Int) (by omega) (fun h => d2.2.2 _ mA _ h rfl)).1]
    -- the step itself
    have hmi : ∀ X : List Int, rd (vw e.A X) (A0.length : Nat) = rd X m := fun X => by
      rw [rd_at (by omega) (by rw [vw_len, hA, List.length_append, List.length_singleton]; push_cast; omega)]
      simp only [vw, hA, List.map_append, Int.toNat_natCast]
      rw [List.getElem_append_right (by simp)]; simp
    have hfin := hmi (seqStepM Y Ca Fa e (seqAllM Y Ca Fa E1 Na La).1 (seqAllM Y Ca Fa E1 Na La).2).2
    rw [← hfin, ← sL.v, own_last hp (q := A0.length) (by rw [vw_len, hA]; simp) (by rw [hmi, (q1.2.1 (m : Int) (by omega) (hE1 _ mA)).2]; exact hlast.2) (by rw [hmi]; exact hl) (by rw [h1, h2]) (by rw [h1]; exact hb.1), hmi, (q1.2.1 (m : Int) (by omega) (hE1 _ mA)).1]
    exact hlast.1
  -- the second text's sequences
  have hN1 : ∀ q : Int, 0 ≤ q → (Fa.length : Int) ≤ q → rd (seqAllM Y (Ca ++ Cb) (Fa ++ Fb) Ea N L).2 q = rd L q ∧ rd (seqAllM Y (Ca ++ Cb) (Fa ++ Fb) Ea N L).1 q = rd N q := fun q a c => p3 q a fun p hp e => by have := rga p hp; omega
  have r2 := seqAll_rel (Y := Y) hp (s := Fa.length) (C := Cb) (F := Fb) (C' := Ca ++ Cb) (F' := Fa ++ Fb) Eb Nb Lb (seqAllM Y (Ca ++ Cb) (Fa ++ Fb) Ea N L).1 (seqAllM Y (Ca ++ Cb) (Fa ++ Fb) Ea N L).2 dnb (fun p h => by
      have := rgb p h
      rw [lB.1, lB.2, p5, p6, lX.1, lX.2, hn]; omega)
    { c := fun p h => by rw [hFa]; exact rd_appr (rgb p h).1
      f := fun p h => rd_appr (rgb p h).1
      n := fun p h => by rw [(hN1 _ (by have := rgb p h; omega) (by have := rgb p h; omega)).2]; exact (xb p (rgb p h).1 (rgb p h).2).2
      l := fun p h => by rw [(hN1 _ (by have := rgb p h; omega) (by have := rgb p h; omega)).1]; exact (xb p (rgb p h).1 (rgb p h).2).1 }
  obtain ⟨g1, g2, g3, g4, g5, g6⟩ := r2
  -- the levels ahead of the ends
  have sA : ∀ p : Int, 0 ≤ p → p < Fa.length → rd (seqAllM Y (Ca ++ Cb) (Fa ++ Fb) (Eb.map (shS Fa.length)) (seqAllM Y (Ca ++ Cb) (Fa ++ Fb) Ea N L).1 (seqAllM Y (Ca ++ Cb) (Fa ++ Fb) Ea N L).2).2 p = rd (seqAllM Y Ca Fa Ea Na La).2 p := fun p a c => by
    rw [(g3 p a fun q hq e => by have := rgb q hq; omega).1]
    by_cases hpm : p ∈ Ea.flatMap SE.A
    · have := p1 p hpm
      rwa [Int.add_zero] at this
    · rw [(p3 p a fun q hq e => hpm (by rw [e, Int.add_zero]; exact hq)).1, (p2 p a hpm).1]
      exact (xa p a c).1
  have sB : ∀ p : Int, 0 ≤ p → p < Fb.length → rd (seqAllM Y (Ca ++ Cb) (Fa ++ Fb) (Eb.map (shS Fa.length)) (seqAllM Y (Ca ++ Cb) (Fa ++ Fb) Ea N L).1 (seqAllM Y (Ca ++ Cb) (Fa ++ Fb) Ea N L).2).2 (p + Fa.length) = rd (seqAllM Y Cb Fb Eb Nb Lb).2 p := fun p a c => by
    by_cases hpm : p ∈ Eb.flatMap SE.A
    · exact g1 p hpm
    · rw [(g3 (p + Fa.length) (by omega) fun q hq e => hpm (by rw [show p = q by omega]; exact hq)).1, (g2 p a hpm).1, (hN1 _ (by omega) (by omega)).1]
      exact (xb p a c).1
  rw [p5, lX.1] at g5
  rw [lA.1] at p4
  rw [lB.1] at g4
  clear p1 p2 p3 p5 p6 g1 g2 g3 g6 hN1 hlv dna dnb rga rgb xa xb lX lA lB hlast
  generalize (seqAllM Y (Ca ++ Cb) (Fa ++ Fb) (Eb.map (shS Fa.length)) (seqAllM Y (Ca ++ Cb) (Fa ++ Fb) Ea N L).1 (seqAllM Y (Ca ++ Cb) (Fa ++ Fb) Ea N L).2).2 = W at sA sB g5
  generalize (seqAllM Y Ca Fa Ea Na La).2 = Wa at sA hB p4
  generalize (seqAllM Y Cb Fb Eb Nb Lb).2 = Wb at sB g4
  -- the ends
  unfold endsM
  rw [← e1_ends, ← e1_ends, ← e1_ends, show (Fa ++ Fb).length = Fa.length + Fb.length from List.length_append, e1_add]
  have a1 := e1_rel (F := Fa) (F' := Fa ++ Fb) (s := 0) (hi := Fa.length) (L0 := W) (Int.le_refl _) Fa.length 0 b Wa W (Int.le_refl _) (by omega) (fun t a c => by rw [Int.add_zero]; exact rd_appl a (by omega)) (by omega) (by rw [g5, hn]; omega) (fun p a c => by rw [Int.add_zero]; exact sA p a c) (fun _ _ _ => rfl)
  rw [Int.add_zero] at a1
  have hlen1 := e1_len (Fa ++ Fb) Fa.length 0 b W
  have hlast1 : (e1 (Fa ++ Fb) Fa.length 0 b W).1 = b := by
    rw [a1.1, hm', e1_add]
    simp only [e1]
    rw [Int.zero_add, hl, if_neg (by unfold isRemoved; omega)]
    have h1 : ∀ (r : Nat) (i last : Int) (L : List Int) (p : Int), 0 ≤ i → i + r ≤ p → rd (e1 Fa r i last L).2 p = rd L p := by
      intro r
      induction r with
      | zero => intro i last L p _ _; rfl
      | succ r ih =>
        intro i last L p h0 hp
        push_cast at hp
        simp only [e1]
        split
        · rw [ih _ _ _ _ (by omega) (by omega)]; exact set_ne h0 (by omega) (by omega)
        · exact ih _ _ _ _ (by omega) (by omega)
    rw [h1 m 0 b Wa m (Int.le_refl _) (by omega)]; exact hB
  rw [hlast1, Int.zero_add]
  have a2 := e1_rel (F := Fb) (F' := Fa ++ Fb) (s := Fa.length) (hi := Fb.length) (L0 := (e1 (Fa ++ Fb) Fa.length 0 b W).2) (by omega) Fb.length 0 b Wb (e1 (Fa ++ Fb) Fa.length 0 b W).2 (Int.le_refl _) (by omega) (fun t a c => rd_appr a) (by omega) (by rw [hlen1, g5, hn]; omega) (fun p a c => by rw [a1.2.2 _ (by omega) (.inr (by omega))]; exact sB p a c) (fun _ _ _ => rfl)
  rw [Int.zero_add] at a2
  have hlen2 := e1_len (Fa ++ Fb) Fb.length Fa.length b (e1 (Fa ++ Fb) Fa.length 0 b W).2
  have hlenA := e1_len Fa Fa.length 0 b Wa
  have hlenB := e1_len Fb Fb.length 0 b Wb
  have uA : ∀ p : Int, 0 ≤ p → p < Fa.length → rd (e1 (Fa ++ Fb) Fb.length Fa.length b (e1 (Fa ++ Fb) Fa.length 0 b W).2).2 p = rd (e1 Fa Fa.length 0 b Wa).2 p := fun p a c => by
    rw [a2.2.2 p a (.inl (by omega))]
    have := a1.2.1 p a c
    rwa [Int.add_zero] at this
  have uB : ∀ p : Int, 0 ≤ p → p < Fb.length → rd (e1 (Fa ++ Fb) Fb.length Fa.length b (e1 (Fa ++ Fb) Fa.length 0 b W).2).2 (p + Fa.length) = rd (e1 Fb Fb.length 0 b Wb).2 p := fun p a c => a2.2.1 p a c
  rw [hlen1, g5] at hlen2
  rw [p4] at hlenA
  rw [g4] at hlenB
  generalize (e1 (Fa ++ Fb) Fb.length Fa.length b (e1 (Fa ++ Fb) Fa.length 0 b W).2).2 = V at uA uB hlen2
  generalize (e1 Fa Fa.length 0 b Wa).2 = Va at uA hlenA
  generalize (e1 Fb Fb.length 0 b Wb).2 = Vb at uB hlenB
  obtain ⟨t'', V'', h1, h2, h3, h4⟩ := e2_high (F := Fb) (F' := Fa ++ Fb) (n := Fa.length) (b := b) Fb.length true Vb V (fun p a c => rd_appr a) (by omega) (by rw [hlen2, hlenB]; simp) (fun p a c => uB p a (by omega))
  rw [h1]
  have low := e2_low (F := Fa) (F' := Fa ++ Fb) (b := b) Fa.length true Va V'' (fun p a c => rd_appl a c) (by omega) (by rw [h4, hlen2, hlenA]; simp) (fun p a c => by
    rw [Int.add_zero, h3 p a (.inl (by omega))]; exact uA p a (by omega))
  have et : ends2M (Fa ++ Fb) b Fa.length t'' V'' = ends2M (Fa ++ Fb) b Fa.length true V'' := by
    rw [hm']
    simp only [ends2M]
    have hF : rd (Fa ++ Fb) (m : Int) = 10 := by rw [rd_appl (by omega) (by omega)]; exact hl
    have ht : ∀ t, tailOf 10 t = true := fun t => by unfold tailOf; rw [if_pos (.inr rfl)]
    rw [hF, ht, ht]
  rw [et]
  refine list_rd ?_ fun p a c => ?_
  · rw [ends2M_length, List.length_append, ends2M_length, ends2M_length, h4, hlen2, hlenA, hlenB]; simp
  · rw [ends2M_length, h4, hlen2, hn] at c
    by_cases hpa : p < Fa.length
    · rw [rd_appl a (by rw [ends2M_length, hlenA]; exact hpa)]
      have := low.1 p a (by omega)
      rwa [Int.add_zero] at this
    · have e : p = (p - Fa.length) + Fa.length := by omega
      rw [low.2 p a (.inr (by rw [hlenA]; omega))]
      rw [e]
      have e2 : ((ends2M Fa b Fa.length true Va).length : Int) = Fa.length := by rw [ends2M_length, hlenA]
      have e3 := rd_appr (A := ends2M Fa b Fa.length true Va) (B := ends2M Fb b Fb.length true Vb) (i := p - Fa.length) (by omega)
      rw [e2] at e3
      rw [e3]
      exact h2 (p - Fa.length) (by omega) (by rw [hlenB]; omega)
end Go.Proofs.Ythkklpegjcnjoaa

namespace Go.Proofs.Ythkklpegjcnjoaa
open Go.Ab
variable {X : CallE} {ro : Nat}
set_option maxRecDepth 10000
set_option linter.unusedVariables false
set_option linter.unusedSimpArgs false

theorem SlO.ofRow {H : Hp} {ν n : Nat} {sz : Nat} {ws : List Value} (h : H ν = some (.row sz ws)) (hl : ws.length = n * sz) : SlO H (.slice (some ⟨ν, 0, none⟩) n n) sz n ws :=
  .inr ⟨ν, n, ws, rfl, h, hl, Nat.le_refl _, by rw [← hl, List.take_length]⟩
theorem slo_int {H : Hp} {v : Value} {n : Nat} {L : List Int} (h : SlO H v 1 n (L.map (.int .i64))) (hn : L.length = n) {i : Int} (h0 : 0 ≤ i) (h1 : i < n) :
    ∃ ν c ws, v = .slice (some ⟨ν, 0, none⟩) n c ∧ H ν = some (.row 1 ws) ∧ ws[0 + i.toNat * 1]? = some (.int .i64 (rd L i)) := by
  rcases h with ⟨_, rfl, _⟩ | ⟨ν, c, ws, rfl, h2, h3, h4, h5⟩
  · omega
  · refine ⟨ν, c, ws, rfl, h2, ?_⟩
    have hg := ints_get0 (L := L) h0 (by omega)
    rw [h5, List.getElem?_take] at hg
    split at hg
    · exact hg
    · cases hg

theorem same_sp {s : St} {H : Hp} {n : Nat} {L : List Int} {v w : Value} (hX : OwnX X) (hM : Models ro s H) (hv : SlO H v 1 n (L.map (.int .i64))) (hw : SlO H w 1 n (L.map (.int .i64))) (hL : L.length = n) (hn : n ≤ 17592186044416) :
    Sp X Try.prog ro 15 [v, w] s fun u H' => u = .bool true ∧ H' = H := by
  refine Sp.of_body (hX _ _ _ (by decide) (by decide) (by decide) (by decide)) Try.func15 rfl Try.ntmps15 (by simp) ?_
  refine WC.seq (WC.region ?_)
  refine asO ?_
  refine WO.nil ?_
  refine WC.seq (WC.seq (WC.region ?_))
  refine cO (SV.move ?_)
  refine cO (SV.lenO rfl rfl (by assumption) ?_)
  refine cO (SV.move ?_)
  refine cO (SV.lenO rfl rfl (by assumption) ?_)
  refine cO (SV.neqI rfl rfl ?_)
  refine WO.nil ?_
  have hnn : decide ((n : Int) ≠ (n : Int)) = false := by simp
  refine WC.condF rfl (by assumption) (WC.skip (WC.seq (WC.seq ?_)))
  refine WC.region ?_
  refine cO (SV.move ?_)
  refine cO (SV.lenO rfl rfl (by assumption) ?_)
  refine mvO ?_
  refine WO.nil ?_
  refine WC.block ?_
  refine WC.loop (D := Nat) (fun x => [(0, v), (1, w), (11, v), (12, .int .i64 n), (13, .int .i64 x)])
    (fun x s1 => s.next ≤ s1.next ∧ Models ro s1 H ∧ x ≤ n) (fun x => n - x) 0 ?_ ⟨by omega, hM, by omega⟩ ?_
  · exact ⟨rfl, rfl, rfl, rfl, rfl, trivial⟩
  rintro k g s1 ⟨hn1, hM1, hk⟩
  refine WC.seq (WC.region ?_)
  refine cO (SV.lss rfl rfl ?_)
  refine WO.nil ?_
  refine WC.seq ?_
  refine WC.condD rfl (fun hlt hltb => ?_) (fun hlt hltb => ?_)
  · obtain ⟨ν, c, ws, rfl, hν, hg⟩ := slo_int hv hL (i := k) (by omega) (by omega)
    obtain ⟨ν2, c2, ws2, rfl, hν2, hg2⟩ := slo_int hw hL (i := k) (by omega) (by omega)
    have hne : decide (rd L k ≠ rd L k) = false := by simp
    refine WC.skip (WC.seq (WC.block (WC.seq (WC.region ?_))))
    refine mvO ?_
    refine asO ?_
    refine WO.nil ?_
    refine WC.seq ?_
    refine WC.dr [0, 1, 2, 3, 4, 5, 6, 7, 8] ?_
    refine mvD ?_
    refine mvD ?_
    refine cD (SV.indexAddr rfl rfl (by omega) ?_)
    refine cD (SV.loadM (by assumption) rfl (by assumption) (by assumption) ?_)
    refine mvD ?_
    refine mvD ?_
    refine cD (SV.indexAddr rfl rfl (by omega) ?_)
    refine cD (SV.loadM (by assumption) rfl (by assumption) (by assumption) ?_)
    refine cD (SV.neqI rfl rfl ?_)
    refine WD.nil ?_
    refine WC.condF rfl (by assumption) (WC.skip ?_)
    refine WC.region ?_
    refine cO (adI ?_)
    refine mvO ?_
    refine WO.nil ?_
    exact ⟨rfl, k + 1, ⟨rfl, rfl, rfl, rfl, rfl, trivial⟩, ⟨by omega, hM1, by omega⟩, by omega⟩
  · refine WC.exit (WC.seq ?_)
    refine WC.region ?_
    refine asO ?_
    refine WO.nil ?_
    refine WC.ret ?_
    exact fin_one (e := .ret) rfl trivial rfl hn1 hM1 ⟨rfl, rfl⟩

theorem same_sp2 {s : St} {H : Hp} {n ν cv : Nat} {L : List Int} {w : Value} (hX : OwnX X) (hM : Models ro s H) (hν : H ν = some (.row 1 (L.map (.int .i64)))) (hw : SlO H w 1 n (L.map (.int .i64))) (hL : L.length = n) (hn : n ≤ 17592186044416) :
    Sp X Try.prog ro 15 [.slice (some ⟨ν, 0, none⟩) n cv, w] s fun u H' => u = .bool true ∧ H' = H := by
  refine Sp.of_body (hX _ _ _ (by decide) (by decide) (by decide) (by decide)) Try.func15 rfl Try.ntmps15 (by simp) ?_
  refine WC.seq (WC.region ?_)
  refine asO ?_
  refine WO.nil ?_
  refine WC.seq (WC.seq (WC.region ?_))
  refine mvO ?_
  refine cO (SV.len rfl rfl ?_)
  refine cO (SV.move ?_)
  refine cO (SV.lenO rfl rfl (by assumption) ?_)
  refine cO (SV.neqI rfl rfl ?_)
  refine WO.nil ?_
  have hnn : decide ((n : Int) ≠ (n : Int)) = false := by simp
  refine WC.condF rfl (by assumption) (WC.skip (WC.seq (WC.seq ?_)))
  refine WC.region ?_
  refine mvO ?_
  refine cO (SV.len rfl rfl ?_)
  refine mvO ?_
  refine WO.nil ?_
  refine WC.block ?_
  refine WC.loop (D := Nat) (fun x => [(0, .slice (some ⟨ν, 0, none⟩) n cv), (1, w), (11, .slice (some ⟨ν, 0, none⟩) n cv), (12, .int .i64 n), (13, .int .i64 x)])
    (fun x s1 => s.next ≤ s1.next ∧ Models ro s1 H ∧ x ≤ n) (fun x => n - x) 0 ?_ ⟨by omega, hM, by omega⟩ ?_
  · exact ⟨rfl, rfl, rfl, rfl, rfl, trivial⟩
  rintro k g s1 ⟨hn1, hM1, hk⟩
  refine WC.seq (WC.region ?_)
  refine cO (SV.lss rfl rfl ?_)
  refine WO.nil ?_
  refine WC.seq ?_
  refine WC.condD rfl (fun hlt hltb => ?_) (fun hlt hltb => ?_)
  · have hg := ints_get0 (L := L) (i := k) (by omega) (by omega)
    obtain ⟨ν2, c2, ws2, rfl, hν2, hg2⟩ := slo_int hw hL (i := k) (by omega) (by omega)
    have hne : decide (rd L k ≠ rd L k) = false := by simp
    refine WC.skip (WC.seq (WC.block (WC.seq (WC.region ?_))))
    refine mvO ?_
    refine asO ?_
    refine WO.nil ?_
    refine WC.seq ?_
    refine WC.dr [0, 1, 2, 3, 4, 5, 6, 7, 8] ?_
    refine mvD ?_
    refine mvD ?_
    refine cD (SV.indexAddr rfl rfl (by omega) ?_)
    refine cD (SV.loadM (by assumption) rfl (by assumption) (by assumption) ?_)
    refine mvD ?_
    refine mvD ?_
    refine cD (SV.indexAddr rfl rfl (by omega) ?_)
    refine cD (SV.loadM (by assumption) rfl (by assumption) (by assumption) ?_)
    refine cD (SV.neqI rfl rfl ?_)
    refine WD.nil ?_
    refine WC.condF rfl (by assumption) (WC.skip ?_)
    refine WC.region ?_
    refine cO (adI ?_)
    refine mvO ?_
    refine WO.nil ?_
    exact ⟨rfl, k + 1, ⟨rfl, rfl, rfl, rfl, rfl, trivial⟩, ⟨by omega, hM1, by omega⟩, by omega⟩
  · refine WC.exit (WC.seq ?_)
    refine WC.region ?_
    refine asO ?_
    refine WO.nil ?_
    refine WC.ret ?_
    exact fin_one (e := .ret) rfl trivial rfl hn1 hM1 ⟨rfl, rfl⟩

/-- append([]int{}, xs...): a row of its own. -/
theorem app_fresh {H H8 : Hp} {a0 n : Nat} {v8 : Value} {C : List Int} (hne0 : ∀ ν o, H ν = some o → ν ≠ a0) (hn : C.length = n) (hk : KeptBut (H.up a0 (.row 1 [])) H8 (.slice (some ⟨a0, 0, none⟩) 0 0)) (hnew : NewOr (H.up a0 (.row 1 [])) (.slice (some ⟨a0, 0, none⟩) 0 0) v8)
    (hex : AppEx (H.up a0 (.row 1 [])) H8 (.slice (some ⟨a0, 0, none⟩) 0 0) v8 1 0 (0 + n) ([] ++ C.map (.int .i64))) :
    ∃ a, v8 = .slice (some ⟨a, 0, none⟩) n n ∧ H8 a = some (.row 1 (C.map (.int .i64))) ∧ ∀ ν o, H ν = some o → H8 ν = some o ∧ ν ≠ a := by
  have hfr : ∀ ν o, H ν = some o → baseV v8 ≠ some ν := fun ν o e h => by
    rcases hnew ν h with h1 | h1
    · cases h1; exact hne0 _ _ e rfl
    · rw [Hp.up_ne (hne0 _ _ e) e] at h1; cases h1
  have hkeep : ∀ ν o, H ν = some o → H8 ν = some o := fun ν o e => hk ν o (Hp.up_ne (hne0 _ _ e) e) (fun h => by cases h; exact hne0 _ _ e rfl)
  by_cases hn0 : n = 0
  · subst hn0
    obtain rfl : C = [] := List.length_eq_zero_iff.mp hn
    obtain rfl := hex.2.2.1 _ _ _ rfl (Nat.le_refl _)
    exact ⟨a0, rfl, hex.2.2.2 rfl _ _ Hp.up_same, fun ν o e => ⟨hkeep ν o e, hne0 ν o e⟩⟩
  · obtain ⟨a1, rfl, h1⟩ := hex.2.1 _ _ _ rfl (by omega)
    rw [Nat.zero_add] at *
    exact ⟨a1, rfl, h1, fun ν o e => ⟨hkeep ν o e, fun e2 => hfr ν o e (by rw [e2]; rfl)⟩⟩


/-- One number appended to a row that is full: a new row. -/
theorem app_one {H H8 : Hp} {a b k : Nat} {v8 : Value} {O : List Int} {x : Int} (ha : H a = some (.row 1 (O.map (.int .i64)))) (hO : O.length = k) (hb : ∀ ν o, H ν = some o → ν ≠ b)
    (hk : KeptBut (H.up b (.row 1 [.int .i64 x])) H8 (.slice (some ⟨a, 0, none⟩) k k)) (hnew : NewOr (H.up b (.row 1 [.int .i64 x])) (.slice (some ⟨a, 0, none⟩) k k) v8)
    (hex : AppEx (H.up b (.row 1 [.int .i64 x])) H8 (.slice (some ⟨a, 0, none⟩) k k) v8 1 k (k + 1) (O.map (.int .i64) ++ [.int .i64 x])) :
    ∃ a', v8 = .slice (some ⟨a', 0, none⟩) (k + 1) (k + 1) ∧ H8 a' = some (.row 1 ((O ++ [x]).map (.int .i64))) ∧ ∀ ν o, H ν = some o → ν ≠ a → H8 ν = some o ∧ ν ≠ a' := by
  obtain ⟨a', rfl, h1⟩ := hex.2.1 _ _ _ rfl (by omega)
  refine ⟨a', rfl, by rw [List.map_append]; exact h1, fun ν o e hne => ⟨hk ν o (Hp.up_ne (hb ν o e) e) (fun h => hne (by cases h; rfl)), fun e2 => ?_⟩⟩
  subst e2
  rcases hnew ν rfl with h | h
  · cases h; exact hne rfl
  · rw [Hp.up_ne (hb ν o e) e] at h; cases h


/-- Numbers appended to a row that is full. -/
theorem app_more {H H8 : Hp} {a n m : Nat} {v8 : Value} {O B : List Int} (ha : H a = some (.row 1 (O.map (.int .i64)))) (hO : O.length = n) (hB : B.length = m)
    (hk : KeptBut H H8 (.slice (some ⟨a, 0, none⟩) n n)) (hnew : NewOr H (.slice (some ⟨a, 0, none⟩) n n) v8)
    (hex : AppEx H H8 (.slice (some ⟨a, 0, none⟩) n n) v8 1 n (n + m) (O.map (.int .i64) ++ B.map (.int .i64))) :
    ∃ a', v8 = .slice (some ⟨a', 0, none⟩) (n + m) (n + m) ∧ H8 a' = some (.row 1 ((O ++ B).map (.int .i64))) ∧ ∀ ν o, H ν = some o → ν ≠ a → H8 ν = some o ∧ ν ≠ a' := by
  by_cases hm : m = 0
  · subst hm
    obtain rfl : B = [] := List.length_eq_zero_iff.mp hB
    obtain rfl := hex.2.2.1 _ _ _ rfl (Nat.le_refl _)
    refine ⟨a, rfl, by rw [List.append_nil]; exact hex.2.2.2 rfl _ _ ha, fun ν o e hne => ⟨hk ν o e (fun h => hne (by cases h; rfl)), hne⟩⟩
  · obtain ⟨a', rfl, h1⟩ := hex.2.1 _ _ _ rfl (by omega)
    refine ⟨a', rfl, by rw [List.map_append]; exact h1, fun ν o e hne => ⟨hk ν o e (fun h => hne (by cases h; rfl)), fun e2 => ?_⟩⟩
    subst e2
    rcases hnew ν rfl with h | h
    · cases h; exact hne rfl
    · rw [e] at h; cases h
end Go.Proofs.Ythkklpegjcnjoaa

namespace Go.Proofs.Ythkklpegjcnjoaa
open Go.Ab
variable {X : CallE} {ro : Nat}
set_option maxRecDepth 10000
set_option linter.unusedVariables false
set_option linter.unusedSimpArgs false

theorem levels_sp' {Y : Exts} {s : St} {H : Hp} {c cc n : Nat} {C : List Int} {b : Int} (hX : ExtOk X ro Y) (hM : Models ro s H) (hc : H c = some (.row 1 (C.map (.int .i64)))) (hC : C.length = n) (hb : -1 ≤ b ∧ b ≤ 1) (hn : n ≤ 16384) :
    Sp X Try.prog ro 17 [.slice (some ⟨c, 0, none⟩) n cc, .int .i64 b] s fun v H' => ∃ l cl, v = .tuple #[.slice (some ⟨l, 0, none⟩) n cl, .int .i64 0] ∧ (∀ ν o, H ν = some o → H' ν = some o ∧ ν ≠ l) ∧ H' l = some (.row 1 ((levelsM Y C b).map (.int .i64))) ∧ (levelsM Y C b).length = n := by
  subst hC
  exact levels_sp hX hM hc hb hn

set_option maxHeartbeats 8000000 in
theorem parts_sp {Y : Exts} {s : St} {H : Hp} {A B : Option Addr} {capA capB : Nat} {Ca Cb : List Int} {right : Bool} (hX : ExtOk X ro Y) (hsep : Y.LB 8233 = 10) (hM : Models ro s H)
    (hsrcA : ∀ H' : Hp, (∀ ν o, H ν = some o → H' ν = some o) → Src Try.prog ro H' (.slice A Ca.length capA) 1 Ca.length (Ca.map (.int .i64)))
    (hsrcB : ∀ H' : Hp, (∀ ν o, H ν = some o → H' ν = some o) → Src Try.prog ro H' (.slice B Cb.length capB) 1 Cb.length (Cb.map (.int .i64))) :
    Sp X Try.prog ro 5 [.slice A Ca.length capA, .slice B Cb.length capB, .bool right] s fun v H' => v = .bool true := by
  have hX0 := hX.own
  refine Sp.of_body (hX.own _ _ _ (by decide) (by decide) (by decide) (by decide)) Try.func5 rfl Try.ntmps5 (by simp) ?_
  refine WC.seq (WC.region ?_)
  refine asO ?_
  refine WO.nil ?_
  refine WC.seq (WC.seq (WC.region ?_))
  refine cO ?_
  refine SV.callM rfl rfl (hX.alive13 _ _ hM) ?_
  rintro v s1 H1 hn1 hM1 ⟨rfl, rfl⟩
  refine cO (SV.notT rfl (by rfl) ?_)
  refine WO.nil ?_
  refine WC.condF rfl (by rfl) (WC.skip (WC.seq ?_))
  refine WC.region ?_
  refine asO ?_
  refine WO.nil ?_
  refine WC.seq (WC.seq (WC.region ?_))
  refine mvO ?_
  refine WO.nil ?_
  cases right with
  | true =>
    refine WC.condT rfl (by rfl) ?_
    refine WC.region ?_
    refine asO ?_
    refine WO.nil ?_
    by_cases hbA : 8000 < Ca.length
    · have hd1 : decide ((8000 : Int) < Ca.length) = true := decide_eq_true (by omega)
      refine WC.seq (WC.seq (WC.region ?_))
      refine mvO ?_
      refine cO (SV.len rfl rfl ?_)
      refine cO (SV.gtr rfl rfl ?_)
      refine mvO ?_
      refine gnO ?_
      all_goals refine gnO ?_
      all_goals refine gnO ?_
      all_goals refine cO (pT ?_)
      all_goals refine WO.nil ?_
      refine WC.condT rfl (by rfl) (WC.seq ?_)
      refine WC.region ?_
      refine asO ?_
      refine WO.nil ?_
      refine WC.ret ?_
      exact fin_one (e := .ret) (v := .bool true) rfl trivial rfl (by omega) hM1 rfl
    have hd1 : decide ((8000 : Int) < Ca.length) = false := decide_eq_false (by omega)
    by_cases hbB : 8000 < Cb.length
    · have hd2 : decide ((8000 : Int) < Cb.length) = true := decide_eq_true (by omega)
      refine WC.seq (WC.seq (WC.region ?_))
      refine mvO ?_
      refine cO (SV.len rfl rfl ?_)
      refine cO (SV.gtr rfl rfl ?_)
      refine mvO ?_
      refine gyO (SV.moveV (by constructor) ?_)
      all_goals refine gyO (SV.len rfl rfl ?_)
      all_goals refine gyO (SV.gtr rfl rfl ?_)
      all_goals refine cO (pF ?_)
      all_goals refine WO.nil ?_
      refine WC.condT rfl (by assumption) (WC.seq ?_)
      refine WC.region ?_
      refine asO ?_
      refine WO.nil ?_
      refine WC.ret ?_
      exact fin_one (e := .ret) (v := .bool true) rfl trivial rfl (by omega) hM1 rfl
    have hd2 : decide ((8000 : Int) < Cb.length) = false := decide_eq_false (by omega)
    refine WC.seq (WC.seq (WC.region ?_))
    refine mvO ?_
    refine cO (SV.len rfl rfl ?_)
    refine cO (SV.gtr rfl rfl ?_)
    refine mvO ?_
    refine gyO (SV.moveV (by constructor) ?_)
    all_goals refine gyO (SV.len rfl rfl ?_)
    all_goals refine gyO (SV.gtr rfl rfl ?_)
    all_goals refine cO (pF ?_)
    all_goals refine WO.nil ?_
    refine WC.condF rfl (by assumption) (WC.skip (WC.seq ?_))
    refine WC.region ?_
    refine cO (SV.buildSliceM (by assumption) rfl rfl (fun a8_0 s8_0 hf8_0 hne8_0 hn8_0 hM8_0 => ?_))
    refine mvO ?_
    refine cO ?_
    refine SV.appendM (t := 23) (u := 23) (e := 3) (e' := 3) (sz := 1) (sz' := 1) (bytes := 8) (z := [.int .i64 0]) (n := 0) (m := Ca.length) (vs := []) (xs := Ca.map (.int .i64)) rfl (by assumption) rfl rfl (.inr ⟨a8_0, 0, [], rfl, Hp.up_same, rfl, Nat.le_refl _, rfl⟩)
      (hsrcA _ (fun ν o e => Hp.up_ne (hne8_0 _ _ e) e)) rfl (by omega) (fun v4 s4 H4 hn4 hM4 hv4 hk4 hnew4 hex4 => ?_)
    obtain ⟨a4, rfl, ha4, hkp4⟩ := app_fresh hne8_0 rfl hk4 hnew4 hex4
    clear hv4 hk4 hnew4 hex4 hM8_0
    refine cO (SV.buildSliceM (by assumption) rfl rfl (fun a8_3 s8_3 hf8_3 hne8_3 hn8_3 hM8_3 => ?_))
    refine cO ?_
    have hM8b : Models ro s8_3 (H4.up a8_3 (.row 1 [.int .i64 8233])) := hM8_3
    refine SV.appendM (t := 23) (u := 23) (e := 3) (e' := 3) (sz := 1) (sz' := 1) (bytes := 8) (z := [.int .i64 0]) (n := Ca.length) (m := 1) (vs := Ca.map (.int .i64)) (xs := [.int .i64 8233]) rfl hM8b rfl rfl (SlO.ofRow (Hp.up_ne (hne8_3 _ _ ha4) ha4) (by rw [List.length_map, Nat.mul_one]))
      (Src.row Hp.up_same rfl rfl (fun j v h => by rw [Nat.zero_add]; exact h)) rfl (by omega) (fun v5 s5 H5 hn5 hM5 hv5 hk5 hnew5 hex5 => ?_)
    obtain ⟨a5, rfl, ha5, hkp5⟩ := app_one ha4 rfl hne8_3 hk5 hnew5 hex5
    clear hv5 hk5 hnew5 hex5 hM8b hM8_3 hM4
    have hkA5 : ∀ ν o, H1 ν = some o → H5 ν = some o := fun ν o e => (hkp5 ν o (hkp4 ν o e).1 (hkp4 ν o e).2).1
    have hl1 : (Ca ++ [8233]).length = Ca.length + 1 := by simp
    have hlb : rd ((Ca ++ [8233]).map Y.LB) Ca.length = 10 := by
      rw [List.map_append, rd_at (by omega) (by rw [List.length_append, List.length_map, List.length_map, List.length_singleton]; push_cast; omega)]
      simp [hsep]
    generalize hC1 : Ca ++ [8233] = C1 at ha5 hl1 hlb
    refine asO ?_
    refine WO.nil ?_
    refine WC.seq (WC.region ?_)
    refine cO (SV.buildSliceM (by assumption) rfl rfl (fun a9_0 s9_0 hf9_0 hne9_0 hn9_0 hM9_0 => ?_))
    refine mvO ?_
    refine cO ?_
    refine SV.appendM (t := 23) (u := 23) (e := 3) (e' := 3) (sz := 1) (sz' := 1) (bytes := 8) (z := [.int .i64 0]) (n := 0) (m := Ca.length + 1) (vs := []) (xs := C1.map (.int .i64)) rfl (by assumption) rfl rfl (.inr ⟨a9_0, 0, [], rfl, Hp.up_same, rfl, Nat.le_refl _, rfl⟩)
      (Src.row (Hp.up_ne (hne9_0 _ _ ha5) ha5) (by rw [List.length_map, hl1, Nat.mul_one]) (by rw [List.all_map]; simp [oneC]) (fun i v h => by rw [Nat.zero_add]; exact h)) rfl (by omega) (fun v6 s6 H6 hn6 hM6 hv6 hk6 hnew6 hex6 => ?_)
    obtain ⟨a6, rfl, ha6, hkp6⟩ := app_fresh hne9_0 hl1 hk6 hnew6 hex6
    clear hv6 hk6 hnew6 hex6 hM9_0
    refine mvO ?_
    refine cO ?_
    refine SV.appendM (t := 23) (u := 23) (e := 3) (e' := 3) (sz := 1) (sz' := 1) (bytes := 8) (z := [.int .i64 0]) (n := Ca.length + 1) (m := Cb.length) (vs := C1.map (.int .i64)) (xs := Cb.map (.int .i64)) rfl hM6 rfl rfl (SlO.ofRow ha6 (by rw [List.length_map, hl1, Nat.mul_one]))
      (hsrcB _ (fun ν o e => (hkp6 _ _ (hkA5 ν o e)).1)) rfl (by omega) (fun v7 s7 H7 hn7 hM7 hv7 hk7 hnew7 hex7 => ?_)
    obtain ⟨a7, rfl, ha7, hkp7⟩ := app_more ha6 hl1 rfl hk7 hnew7 hex7
    clear hv7 hk7 hnew7 hex7 hM6
    have hkA7 : ∀ ν o, H5 ν = some o → H7 ν = some o := fun ν o e => (hkp7 ν o (hkp6 ν o e).1 (hkp6 ν o e).2).1
    refine asO ?_
    refine WO.nil ?_
    refine WC.seq (WC.region ?_)
    refine mvO ?_
    refine mvO ?_
    refine cO ?_
    refine SV.callM rfl rfl (levels_sp' (b := 1) hX hM7 (hkA7 _ _ ha5) hl1 (by omega) (by omega)) ?_
    rintro v s8 H8 hn8 hM8 ⟨l1, c1, rfl, hkp8, hr1, hL1⟩
    refine mvO ?_
    refine cO (SV.extract rfl rfl ?_)
    refine cO (SV.extract rfl rfl ?_)
    refine asO ?_
    refine asO ?_
    refine WO.nil ?_
    refine WC.seq (WC.region ?_)
    refine cO (SV.buildSliceM (by assumption) rfl rfl (fun a11_0 s11_0 hf11_0 hne11_0 hn11_0 hM11_0 => ?_))
    refine mvO ?_
    refine cO ?_
    refine SV.appendM (t := 23) (u := 23) (e := 3) (e' := 3) (sz := 1) (sz' := 1) (bytes := 8) (z := [.int .i64 0]) (n := 0) (m := Cb.length) (vs := []) (xs := Cb.map (.int .i64)) rfl (by assumption) rfl rfl (.inr ⟨a11_0, 0, [], rfl, Hp.up_same, rfl, Nat.le_refl _, rfl⟩)
      (hsrcB _ (fun ν o e => Hp.up_ne (hne11_0 _ _ (hkp8 _ _ (hkA7 _ _ (hkA5 ν o e))).1) (hkp8 _ _ (hkA7 _ _ (hkA5 ν o e))).1)) rfl (by omega) (fun v9 s9 H9 hn9 hM9 hv9 hk9 hnew9 hex9 => ?_)
    obtain ⟨a9, rfl, ha9, hkp9⟩ := app_fresh hne11_0 rfl hk9 hnew9 hex9
    clear hv9 hk9 hnew9 hex9 hM11_0
    refine mvO ?_
    refine cO ?_
    refine SV.callM rfl rfl (levels_sp' (b := 1) hX hM9 ha9 rfl (by omega) (by omega)) ?_
    rintro v s10 H10 hn10 hM10 ⟨l2, c2, rfl, hkp10, hr2, hL2⟩
    refine mvO ?_
    refine cO (SV.extract rfl rfl ?_)
    refine cO (SV.extract rfl rfl ?_)
    refine asO ?_
    refine asO ?_
    refine WO.nil ?_
    refine WC.seq (WC.region ?_)
    refine mvO ?_
    refine mvO ?_
    refine cO ?_
    have h710 : ∀ ν o, H7 ν = some o → H10 ν = some o := fun ν o e => (hkp10 _ _ (hkp9 _ _ (hkp8 ν o e).1).1).1
    refine SV.callM rfl rfl (levels_sp' (b := 1) hX hM10 (h710 _ _ ha7) (n := Ca.length + 1 + Cb.length) (by rw [List.length_append, hl1]) (by omega) (by omega)) ?_
    rintro v s11 H11 hn11 hM11 ⟨l3, c3, rfl, hkp11, hr3, hL3⟩
    rw [levels_app hX.perm (by omega) hl1 hlb] at hr3 hL3
    have hr1b := (hkp11 _ _ (hkp10 _ _ (hkp9 _ _ hr1).1).1).1
    have hr2b := (hkp11 _ _ hr2).1
    generalize levelsM Y C1 1 = LA at hr1b hL1 hr3 hL3
    generalize levelsM Y Cb 1 = LB at hr2b hL2 hr3 hL3
    refine mvO ?_
    refine cO (SV.extract rfl rfl ?_)
    refine cO (SV.extract rfl rfl ?_)
    refine asO ?_
    refine asO ?_
    refine WO.nil ?_
    refine WC.seq (WC.region ?_)
    refine mvO ?_
    refine cO (SV.eqlI rfl rfl ?_)
    refine mvO ?_
    refine WO.guardY rfl rfl rfl (by rfl) (SV.moveV (by constructor) ?_) (by decide)
    all_goals refine WO.guardY rfl rfl rfl (by rfl) (SV.eqlI rfl rfl ?_) (by decide)
    all_goals refine cO (SV.pickTV rfl (by rfl) (by constructor) ?_)
    all_goals refine mvO ?_
    all_goals refine WO.guardY rfl rfl rfl (by rfl) (SV.moveV (by constructor) ?_) (by decide)
    all_goals refine WO.guardY rfl rfl rfl (by rfl) (SV.eqlI rfl rfl ?_) (by decide)
    all_goals refine cO (SV.pickTV rfl (by rfl) (by constructor) ?_)
    all_goals refine mvO ?_
    all_goals refine WO.guardY rfl rfl rfl (by rfl) (SV.moveV (by constructor) ?_) (by decide)
    all_goals refine WO.guardY rfl rfl rfl (by rfl) (SV.buildSliceM (by assumption) rfl rfl (fun a13_12 s13_12 hf13_12 hne13_12 hn13_12 hM13_12 => ?_)) (by decide)
    all_goals refine WO.guardY rfl rfl rfl (by rfl) (SV.moveV (by constructor) ?_) (by decide)
    all_goals refine WO.guardY rfl rfl rfl (by rfl) ?_ (by decide)
    have hM13 : Models ro s13_12 (H11.up a13_12 (.row 1 [])) := hM13_12
    refine SV.appendM (t := 23) (u := 23) (e := 3) (e' := 3) (sz := 1) (sz' := 1) (bytes := 8) (z := [.int .i64 0]) (n := 0) (m := Ca.length + 1) (vs := []) (xs := LA.map (.int .i64)) rfl hM13 rfl rfl (.inr ⟨a13_12, 0, [], rfl, Hp.up_same, rfl, Nat.le_refl _, rfl⟩)
      (Src.row (Hp.up_ne (hne13_12 _ _ hr1b) hr1b) (by rw [List.length_map, hL1, Nat.mul_one]) (by rw [List.all_map]; simp [oneC]) (fun i v h => by rw [Nat.zero_add]; exact h)) rfl (by omega) (fun v12 s12 H12 hn12 hM12 hv12 hk12 hnew12 hex12 => ?_)
    obtain ⟨b1, rfl, hb1, hkq1⟩ := app_fresh hne13_12 hL1 hk12 hnew12 hex12
    clear hv12 hk12 hnew12 hex12 hM13 hM13_12
    refine WO.guardY rfl rfl rfl (by rfl) (SV.moveV (by constructor) ?_) (by decide)
    all_goals refine WO.guardY rfl rfl rfl (by rfl) ?_ (by decide)
    refine SV.appendM (t := 23) (u := 23) (e := 3) (e' := 3) (sz := 1) (sz' := 1) (bytes := 8) (z := [.int .i64 0]) (n := Ca.length + 1) (m := Cb.length) (vs := LA.map (.int .i64)) (xs := LB.map (.int .i64)) rfl hM12 rfl rfl (SlO.ofRow hb1 (by rw [List.length_map, hL1, Nat.mul_one]))
      (Src.row (hkq1 _ _ hr2b).1 (by rw [List.length_map, hL2, Nat.mul_one]) (by rw [List.all_map]; simp [oneC]) (fun i v h => by rw [Nat.zero_add]; exact h)) rfl (by omega) (fun v13 s13 H13 hn13 hM13 hv13 hk13 hnew13 hex13 => ?_)
    obtain ⟨b2, rfl, hb2, hkq2⟩ := app_more hb1 hL1 hL2 hk13 hnew13 hex13
    clear hv13 hk13 hnew13 hex13 hM12
    refine WO.guardY rfl rfl rfl (by rfl) ?_ (by decide)
    have hr3b : H13 l3 = some (.row 1 ((LA ++ LB).map (.int .i64))) := (hkq2 _ _ (hkq1 _ _ hr3).1 (hkq1 _ _ hr3).2).1
    refine SV.callM rfl rfl (same_sp2 (L := LA ++ LB) hX0 hM13 hr3b (SlO.ofRow hb2 (by rw [List.length_map, hL3, Nat.mul_one])) hL3 (by omega)) ?_
    rintro v s14 H14 hn14 hM14 ⟨rfl, rfl⟩
    refine cO (SV.pickTV rfl (by rfl) (by constructor) ?_)
    all_goals refine asO ?_
    all_goals refine WO.nil ?_
    refine WC.ret ?_
    exact fin_one (e := .ret) (v := .bool true) rfl trivial rfl (by omega) hM14 rfl
  | false =>
    refine WC.condF rfl (by rfl) (WC.skip (WC.seq (WC.seq ?_)))
    by_cases hbA : 8000 < Ca.length
    · have hd1 : decide ((8000 : Int) < Ca.length) = true := decide_eq_true (by omega)
      refine WC.region ?_
      refine mvO ?_
      refine cO (SV.len rfl rfl ?_)
      refine cO (SV.gtr rfl rfl ?_)
      refine mvO ?_
      refine gnO ?_
      all_goals refine gnO ?_
      all_goals refine gnO ?_
      all_goals refine cO (pT ?_)
      all_goals refine WO.nil ?_
      refine WC.condT rfl (by rfl) (WC.seq ?_)
      refine WC.region ?_
      refine asO ?_
      refine WO.nil ?_
      refine WC.ret ?_
      exact fin_one (e := .ret) (v := .bool true) rfl trivial rfl (by omega) hM1 rfl
    have hd1 : decide ((8000 : Int) < Ca.length) = false := decide_eq_false (by omega)
    by_cases hbB : 8000 < Cb.length
    · have hd2 : decide ((8000 : Int) < Cb.length) = true := decide_eq_true (by omega)
      refine WC.region ?_
      refine mvO ?_
      refine cO (SV.len rfl rfl ?_)
      refine cO (SV.gtr rfl rfl ?_)
      refine mvO ?_
      refine gyO (SV.moveV (by constructor) ?_)
      all_goals refine gyO (SV.len rfl rfl ?_)
      all_goals refine gyO (SV.gtr rfl rfl ?_)
      all_goals refine cO (pF ?_)
      all_goals refine WO.nil ?_
      refine WC.condT rfl (by assumption) (WC.seq ?_)
      refine WC.region ?_
      refine asO ?_
      refine WO.nil ?_
      refine WC.ret ?_
      exact fin_one (e := .ret) (v := .bool true) rfl trivial rfl (by omega) hM1 rfl
    have hd2 : decide ((8000 : Int) < Cb.length) = false := decide_eq_false (by omega)
    refine WC.region ?_
    refine mvO ?_
    refine cO (SV.len rfl rfl ?_)
    refine cO (SV.gtr rfl rfl ?_)
    refine mvO ?_
    refine gyO (SV.moveV (by constructor) ?_)
    all_goals refine gyO (SV.len rfl rfl ?_)
    all_goals refine gyO (SV.gtr rfl rfl ?_)
    all_goals refine cO (pF ?_)
    all_goals refine WO.nil ?_
    refine WC.condF rfl (by assumption) (WC.skip (WC.seq ?_))
    refine WC.region ?_
    refine cO (SV.buildSliceM (by assumption) rfl rfl (fun a8_0 s8_0 hf8_0 hne8_0 hn8_0 hM8_0 => ?_))
    refine mvO ?_
    refine cO ?_
    refine SV.appendM (t := 23) (u := 23) (e := 3) (e' := 3) (sz := 1) (sz' := 1) (bytes := 8) (z := [.int .i64 0]) (n := 0) (m := Ca.length) (vs := []) (xs := Ca.map (.int .i64)) rfl (by assumption) rfl rfl (.inr ⟨a8_0, 0, [], rfl, Hp.up_same, rfl, Nat.le_refl _, rfl⟩)
      (hsrcA _ (fun ν o e => Hp.up_ne (hne8_0 _ _ e) e)) rfl (by omega) (fun v4 s4 H4 hn4 hM4 hv4 hk4 hnew4 hex4 => ?_)
    obtain ⟨a4, rfl, ha4, hkp4⟩ := app_fresh hne8_0 rfl hk4 hnew4 hex4
    clear hv4 hk4 hnew4 hex4 hM8_0
    refine cO (SV.buildSliceM (by assumption) rfl rfl (fun a8_3 s8_3 hf8_3 hne8_3 hn8_3 hM8_3 => ?_))
    refine cO ?_
    have hM8b : Models ro s8_3 (H4.up a8_3 (.row 1 [.int .i64 8233])) := hM8_3
    refine SV.appendM (t := 23) (u := 23) (e := 3) (e' := 3) (sz := 1) (sz' := 1) (bytes := 8) (z := [.int .i64 0]) (n := Ca.length) (m := 1) (vs := Ca.map (.int .i64)) (xs := [.int .i64 8233]) rfl hM8b rfl rfl (SlO.ofRow (Hp.up_ne (hne8_3 _ _ ha4) ha4) (by rw [List.length_map, Nat.mul_one]))
      (Src.row Hp.up_same rfl rfl (fun j v h => by rw [Nat.zero_add]; exact h)) rfl (by omega) (fun v5 s5 H5 hn5 hM5 hv5 hk5 hnew5 hex5 => ?_)
    obtain ⟨a5, rfl, ha5, hkp5⟩ := app_one ha4 rfl hne8_3 hk5 hnew5 hex5
    clear hv5 hk5 hnew5 hex5 hM8b hM8_3 hM4
    have hkA5 : ∀ ν o, H1 ν = some o → H5 ν = some o := fun ν o e => (hkp5 ν o (hkp4 ν o e).1 (hkp4 ν o e).2).1
    have hl1 : (Ca ++ [8233]).length = Ca.length + 1 := by simp
    have hlb : rd ((Ca ++ [8233]).map Y.LB) Ca.length = 10 := by
      rw [List.map_append, rd_at (by omega) (by rw [List.length_append, List.length_map, List.length_map, List.length_singleton]; push_cast; omega)]
      simp [hsep]
    generalize hC1 : Ca ++ [8233] = C1 at ha5 hl1 hlb
    refine asO ?_
    refine WO.nil ?_
    refine WC.seq (WC.region ?_)
    refine cO (SV.buildSliceM (by assumption) rfl rfl (fun a9_0 s9_0 hf9_0 hne9_0 hn9_0 hM9_0 => ?_))
    refine mvO ?_
    refine cO ?_
    refine SV.appendM (t := 23) (u := 23) (e := 3) (e' := 3) (sz := 1) (sz' := 1) (bytes := 8) (z := [.int .i64 0]) (n := 0) (m := Ca.length + 1) (vs := []) (xs := C1.map (.int .i64)) rfl (by assumption) rfl rfl (.inr ⟨a9_0, 0, [], rfl, Hp.up_same, rfl, Nat.le_refl _, rfl⟩)
      (Src.row (Hp.up_ne (hne9_0 _ _ ha5) ha5) (by rw [List.length_map, hl1, Nat.mul_one]) (by rw [List.all_map]; simp [oneC]) (fun i v h => by rw [Nat.zero_add]; exact h)) rfl (by omega) (fun v6 s6 H6 hn6 hM6 hv6 hk6 hnew6 hex6 => ?_)
    obtain ⟨a6, rfl, ha6, hkp6⟩ := app_fresh hne9_0 hl1 hk6 hnew6 hex6
    clear hv6 hk6 hnew6 hex6 hM9_0
    refine mvO ?_
    refine cO ?_
    refine SV.appendM (t := 23) (u := 23) (e := 3) (e' := 3) (sz := 1) (sz' := 1) (bytes := 8) (z := [.int .i64 0]) (n := Ca.length + 1) (m := Cb.length) (vs := C1.map (.int .i64)) (xs := Cb.map (.int .i64)) rfl hM6 rfl rfl (SlO.ofRow ha6 (by rw [List.length_map, hl1, Nat.mul_one]))
      (hsrcB _ (fun ν o e => (hkp6 _ _ (hkA5 ν o e)).1)) rfl (by omega) (fun v7 s7 H7 hn7 hM7 hv7 hk7 hnew7 hex7 => ?_)
    obtain ⟨a7, rfl, ha7, hkp7⟩ := app_more ha6 hl1 rfl hk7 hnew7 hex7
    clear hv7 hk7 hnew7 hex7 hM6
    have hkA7 : ∀ ν o, H5 ν = some o → H7 ν = some o := fun ν o e => (hkp7 ν o (hkp6 ν o e).1 (hkp6 ν o e).2).1
    refine asO ?_
    refine WO.nil ?_
    refine WC.seq (WC.region ?_)
    refine mvO ?_
    refine mvO ?_
    refine cO ?_
    refine SV.callM rfl rfl (levels_sp' (b := 0) hX hM7 (hkA7 _ _ ha5) hl1 (by omega) (by omega)) ?_
    rintro v s8 H8 hn8 hM8 ⟨l1, c1, rfl, hkp8, hr1, hL1⟩
    refine mvO ?_
    refine cO (SV.extract rfl rfl ?_)
    refine cO (SV.extract rfl rfl ?_)
    refine asO ?_
    refine asO ?_
    refine WO.nil ?_
    refine WC.seq (WC.region ?_)
    refine cO (SV.buildSliceM (by assumption) rfl rfl (fun a11_0 s11_0 hf11_0 hne11_0 hn11_0 hM11_0 => ?_))
    refine mvO ?_
    refine cO ?_
    refine SV.appendM (t := 23) (u := 23) (e := 3) (e' := 3) (sz := 1) (sz' := 1) (bytes := 8) (z := [.int .i64 0]) (n := 0) (m := Cb.length) (vs := []) (xs := Cb.map (.int .i64)) rfl (by assumption) rfl rfl (.inr ⟨a11_0, 0, [], rfl, Hp.up_same, rfl, Nat.le_refl _, rfl⟩)
      (hsrcB _ (fun ν o e => Hp.up_ne (hne11_0 _ _ (hkp8 _ _ (hkA7 _ _ (hkA5 ν o e))).1) (hkp8 _ _ (hkA7 _ _ (hkA5 ν o e))).1)) rfl (by omega) (fun v9 s9 H9 hn9 hM9 hv9 hk9 hnew9 hex9 => ?_)
    obtain ⟨a9, rfl, ha9, hkp9⟩ := app_fresh hne11_0 rfl hk9 hnew9 hex9
    clear hv9 hk9 hnew9 hex9 hM11_0
    refine mvO ?_
    refine cO ?_
    refine SV.callM rfl rfl (levels_sp' (b := 0) hX hM9 ha9 rfl (by omega) (by omega)) ?_
    rintro v s10 H10 hn10 hM10 ⟨l2, c2, rfl, hkp10, hr2, hL2⟩
    refine mvO ?_
    refine cO (SV.extract rfl rfl ?_)
    refine cO (SV.extract rfl rfl ?_)
    refine asO ?_
    refine asO ?_
    refine WO.nil ?_
    refine WC.seq (WC.region ?_)
    refine mvO ?_
    refine mvO ?_
    refine cO ?_
    have h710 : ∀ ν o, H7 ν = some o → H10 ν = some o := fun ν o e => (hkp10 _ _ (hkp9 _ _ (hkp8 ν o e).1).1).1
    refine SV.callM rfl rfl (levels_sp' (b := 0) hX hM10 (h710 _ _ ha7) (n := Ca.length + 1 + Cb.length) (by rw [List.length_append, hl1]) (by omega) (by omega)) ?_
    rintro v s11 H11 hn11 hM11 ⟨l3, c3, rfl, hkp11, hr3, hL3⟩
    rw [levels_app hX.perm (by omega) hl1 hlb] at hr3 hL3
    have hr1b := (hkp11 _ _ (hkp10 _ _ (hkp9 _ _ hr1).1).1).1
    have hr2b := (hkp11 _ _ hr2).1
    generalize levelsM Y C1 0 = LA at hr1b hL1 hr3 hL3
    generalize levelsM Y Cb 0 = LB at hr2b hL2 hr3 hL3
    refine mvO ?_
    refine cO (SV.extract rfl rfl ?_)
    refine cO (SV.extract rfl rfl ?_)
    refine asO ?_
    refine asO ?_
    refine WO.nil ?_
    refine WC.seq (WC.region ?_)
    refine mvO ?_
    refine cO (SV.eqlI rfl rfl ?_)
    refine mvO ?_
    refine WO.guardY rfl rfl rfl (by rfl) (SV.moveV (by constructor) ?_) (by decide)
    all_goals refine WO.guardY rfl rfl rfl (by rfl) (SV.eqlI rfl rfl ?_) (by decide)
    all_goals refine cO (SV.pickTV rfl (by rfl) (by constructor) ?_)
    all_goals refine mvO ?_
    all_goals refine WO.guardY rfl rfl rfl (by rfl) (SV.moveV (by constructor) ?_) (by decide)
    all_goals refine WO.guardY rfl rfl rfl (by rfl) (SV.eqlI rfl rfl ?_) (by decide)
    all_goals refine cO (SV.pickTV rfl (by rfl) (by constructor) ?_)
    all_goals refine mvO ?_
    all_goals refine WO.guardY rfl rfl rfl (by rfl) (SV.moveV (by constructor) ?_) (by decide)
    all_goals refine WO.guardY rfl rfl rfl (by rfl) (SV.buildSliceM (by assumption) rfl rfl (fun a13_12 s13_12 hf13_12 hne13_12 hn13_12 hM13_12 => ?_)) (by decide)
    all_goals refine WO.guardY rfl rfl rfl (by rfl) (SV.moveV (by constructor) ?_) (by decide)
    all_goals refine WO.guardY rfl rfl rfl (by rfl) ?_ (by decide)
    have hM13 : Models ro s13_12 (H11.up a13_12 (.row 1 [])) := hM13_12
    refine SV.appendM (t := 23) (u := 23) (e := 3) (e' := 3) (sz := 1) (sz' := 1) (bytes := 8) (z := [.int .i64 0]) (n := 0) (m := Ca.length + 1) (vs := []) (xs := LA.map (.int .i64)) rfl hM13 rfl rfl (.inr ⟨a13_12, 0, [], rfl, Hp.up_same, rfl, Nat.le_refl _, rfl⟩)
      (Src.row (Hp.up_ne (hne13_12 _ _ hr1b) hr1b) (by rw [List.length_map, hL1, Nat.mul_one]) (by rw [List.all_map]; simp [oneC]) (fun i v h => by rw [Nat.zero_add]; exact h)) rfl (by omega) (fun v12 s12 H12 hn12 hM12 hv12 hk12 hnew12 hex12 => ?_)
    obtain ⟨b1, rfl, hb1, hkq1⟩ := app_fresh hne13_12 hL1 hk12 hnew12 hex12
    clear hv12 hk12 hnew12 hex12 hM13 hM13_12
    refine WO.guardY rfl rfl rfl (by rfl) (SV.moveV (by constructor) ?_) (by decide)
    all_goals refine WO.guardY rfl rfl rfl (by rfl) ?_ (by decide)
    refine SV.appendM (t := 23) (u := 23) (e := 3) (e' := 3) (sz := 1) (sz' := 1) (bytes := 8) (z := [.int .i64 0]) (n := Ca.length + 1) (m := Cb.length) (vs := LA.map (.int .i64)) (xs := LB.map (.int .i64)) rfl hM12 rfl rfl (SlO.ofRow hb1 (by rw [List.length_map, hL1, Nat.mul_one]))
      (Src.row (hkq1 _ _ hr2b).1 (by rw [List.length_map, hL2, Nat.mul_one]) (by rw [List.all_map]; simp [oneC]) (fun i v h => by rw [Nat.zero_add]; exact h)) rfl (by omega) (fun v13 s13 H13 hn13 hM13 hv13 hk13 hnew13 hex13 => ?_)
    obtain ⟨b2, rfl, hb2, hkq2⟩ := app_more hb1 hL1 hL2 hk13 hnew13 hex13
    clear hv13 hk13 hnew13 hex13 hM12
    refine WO.guardY rfl rfl rfl (by rfl) ?_ (by decide)
    have hr3b : H13 l3 = some (.row 1 ((LA ++ LB).map (.int .i64))) := (hkq2 _ _ (hkq1 _ _ hr3).1 (hkq1 _ _ hr3).2).1
    refine SV.callM rfl rfl (same_sp2 (L := LA ++ LB) hX0 hM13 hr3b (SlO.ofRow hb2 (by rw [List.length_map, hL3, Nat.mul_one])) hL3 (by omega)) ?_
    rintro v s14 H14 hn14 hM14 ⟨rfl, rfl⟩
    refine cO (SV.pickTV rfl (by rfl) (by constructor) ?_)
    all_goals refine asO ?_
    all_goals refine WO.nil ?_
    refine WC.ret ?_
    exact fin_one (e := .ret) (v := .bool true) rfl trivial rfl (by omega) hM14 rfl
end Go.Proofs.Ythkklpegjcnjoaa
