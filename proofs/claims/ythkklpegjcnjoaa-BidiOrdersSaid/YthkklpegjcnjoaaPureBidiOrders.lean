/- The pure statement of BidiOrders: both orders of levels are the same one, and each place comes once: for every list of whole numbers. -/
import Derived.Test.YthkklpegjcnjoaaPBidiOrdersx3
namespace Go.Proofs.Ythkklpegjcnjoaa.Pure
open Go.RowKit Go.Proofs.Ythkklpegjcnjoaa.PBidiOrders Go.Proofs.YthkklpegjcnjoaaW.PrintWords Go.Proofs.YthkklpegjcnjoaaW.PrintLast Go.Proofs.YthkklpegjcnjoaaW.PrintMore
set_option linter.unusedVariables false
set_option linter.unusedSimpArgs false

/-- With rounds enough the answer is r. -/
def E {α : Type} (g : Nat → Option α) (r : α) : Prop := ∃ K, ∀ k, K ≤ k → g k = some r
theorem E.of {α : Type} {r : α} : E (fun _ => some r) r := ⟨0, fun _ _ => rfl⟩
theorem E.succ {α : Type} {g h : Nat → Option α} {r : α} (e : ∀ k, g (k + 1) = h k) (H : E h r) : E g r := by
  obtain ⟨K, hK⟩ := H
  refine ⟨K + 1, fun k hk => ?_⟩
  obtain ⟨m, rfl⟩ : ∃ m, k = m + 1 := ⟨k - 1, by omega⟩
  rw [e]; exact hK m (by omega)
theorem E.bind {α β : Type} {g : Nat → Option α} {r : α} {h : Nat → α → Option β} {s : β} (H : E g r) (H2 : E (fun k => h k r) s) : E (fun k => (g k).bind (h k)) s := by
  obtain ⟨K, hK⟩ := H
  obtain ⟨L, hL⟩ := H2
  exact ⟨K + L, fun k hk => by simp only [hK k (by omega), Option.bind_some]; exact hL k (by omega)⟩
theorem E.ex {α : Type} {g : Nat → Option α} {r : α} (H : E g r) : ∃ k, g k = some r := by
  obtain ⟨K, hK⟩ := H
  exact ⟨K, hK K (Nat.le_refl _)⟩

theorem w64 {n : Int} (h0 : -9223372036854775808 ≤ n) (h1 : n < 9223372036854775808) : wrap64 n = n := by
  unfold wrap64
  omega

theorem nat_one (i : Nat) : (i : Int) + 1 = ((i + 1 : Nat) : Int) := rfl

theorem rd_nat (l : List Int) (b : Nat) : rd l (b : Int) = l.getD b 0 := by simp [rd]

/-! ### The plain order -/
def endOf (l : List Int) (v : Int) (b : Nat) : Nat :=
  if b < l.length then (if v ≤ l.getD b 0 then endOf l v (b + 1) else b) else b
termination_by l.length - b

theorem endOf_ge (l : List Int) (v : Int) (b : Nat) : b ≤ endOf l v b := by
  induction h : l.length - b generalizing b with
  | zero => rw [endOf]; split <;> omega
  | succ n ih =>
    rw [endOf]
    split
    · split
      · have := ih (b + 1) (by omega); omega
      · omega
    · omega

theorem endOf_le (l : List Int) (v : Int) (b : Nat) (hb : b ≤ l.length) : endOf l v b ≤ l.length := by
  induction h : l.length - b generalizing b with
  | zero => rw [endOf]; split <;> omega
  | succ n ih =>
    rw [endOf]
    split
    · split
      · exact ih (b + 1) (by omega) (by omega)
      · omega
    · omega

def rev (out : List Int) (a b : Nat) : List Int := out.take a ++ ((out.drop a).take (b - a)).reverse ++ out.drop b

theorem rev_length (out : List Int) (a b : Nat) (h : a ≤ b) (hb : b ≤ out.length) : (rev out a b).length = out.length := by
  simp only [rev, List.length_append, List.length_take, List.length_reverse, List.length_drop]
  omega

theorem rev_get (out : List Int) (a b : Nat) (h : a ≤ b) (hb : b ≤ out.length) (p : Nat) : (rev out a b)[p]? = if a ≤ p ∧ p < b then out[a + b - 1 - p]? else out[p]? := by
  unfold rev
  rw [List.append_assoc, List.getElem?_append, List.length_take, List.getElem?_append, List.length_reverse, List.length_take, List.length_drop]
  by_cases h1 : p < a
  · rw [if_pos (by omega), if_neg (by omega), List.getElem?_take, if_pos h1]
  · rw [if_neg (by omega)]
    by_cases h2 : p < b
    · rw [if_pos (by omega), if_pos (by omega), List.getElem?_reverse (by simp only [List.length_take, List.length_drop]; omega), List.length_take, List.length_drop, List.getElem?_take, if_pos (by omega), List.getElem?_drop]
      congr 1
      omega
    · rw [if_neg (by omega), if_neg (by omega), List.getElem?_drop]
      congr 1
      omega

theorem rev_perm (out : List Int) (a b : Nat) (h : a ≤ b) (hb : b ≤ out.length) : (rev out a b).Perm out := by
  have e : out = out.take a ++ (out.drop a).take (b - a) ++ out.drop b := by
    rw [List.append_assoc]
    have : (out.drop a).take (b - a) ++ out.drop b = out.drop a := by
      have h2 : out.drop b = (out.drop a).drop (b - a) := by rw [List.drop_drop]; congr 1; omega
      rw [h2, List.take_append_drop]
    rw [this, List.take_append_drop]
  unfold rev
  conv => rhs; rw [e]
  exact ((List.Perm.refl _).append (List.reverse_perm _)).append (List.Perm.refl _)

theorem rev_same (out : List Int) (a : Nat) (ha : a ≤ out.length) : rev out a a = out := by
  simp [rev]

theorem rev_one (out : List Int) (a : Nat) (ha : a < out.length) : rev out a (a + 1) = out := by
  apply List.ext_getElem?
  intro p
  rw [rev_get _ _ _ (by omega) (by omega)]
  split
  · congr 1; omega
  · rfl

theorem rev_step (out : List Int) (a b : Nat) (h : a + 1 < b) (hb : b ≤ out.length) :
    rev ((out.set a (out.getD (b - 1) 0)).set (b - 1) (out.getD a 0)) (a + 1) (b - 1) = rev out a b := by
  apply List.ext_getElem?
  intro p
  have hl : ((out.set a (out.getD (b - 1) 0)).set (b - 1) (out.getD a 0)).length = out.length := by simp
  rw [rev_get _ _ _ (by omega) (by omega), rev_get _ _ _ (by omega) hb]
  have hg : ∀ q, q < out.length → out[q]? = some (out.getD q 0) := by
    intro q hq
    rw [List.getD_eq_getElem?_getD, List.getElem?_eq_getElem hq]; rfl
  by_cases h1 : a + 1 ≤ p ∧ p < b - 1
  · rw [if_pos h1, if_pos (by omega), List.getElem?_set_ne (by omega), List.getElem?_set_ne (by omega)]
    congr 1; omega
  · rw [if_neg h1]
    by_cases h2 : p = a
    · subst h2
      rw [if_pos (by omega), List.getElem?_set_ne (by omega), List.getElem?_set_self (by omega), hg _ (by omega)]
      congr 2; omega
    · by_cases h3 : p = b - 1
      · subst h3
        rw [if_pos (by omega), List.getElem?_set_self (by simp; omega), hg _ (by omega)]
        congr 2; omega
      · rw [if_neg (by omega), List.getElem?_set_ne (by omega), List.getElem?_set_ne (by omega)]

def pass (l : List Int) (v : Int) (a : Nat) (out : List Int) : List Int :=
  if a < l.length then (if a < endOf l v a then pass l v (endOf l v a + 1) (rev out a (endOf l v a)) else pass l v (a + 1) out) else out
termination_by l.length - a
decreasing_by all_goals omega

theorem pass_perm (l : List Int) (v : Int) (a : Nat) (out : List Int) (hl : out.length = l.length) : (pass l v a out).Perm out := by
  induction h : l.length - a using Nat.strongRecOn generalizing a out with
  | _ n ih =>
    rw [pass]
    split
    · have hle := endOf_le l v a (by omega)
      split
      · exact (ih _ (by omega) _ _ (by rw [rev_length _ _ _ (by omega) (by omega)]; exact hl) rfl).trans (rev_perm _ _ _ (by omega) (by omega))
      · exact ih _ (by omega) _ _ hl rfl
    · exact List.Perm.refl _

theorem pass_none (l : List Int) (v : Int) (a : Nat) (out : List Int) (h : ∀ b, b < l.length → l.getD b 0 < v) : pass l v a out = out := by
  induction h2 : l.length - a generalizing a with
  | zero => rw [pass, if_neg (by omega)]
  | succ n ih =>
    rw [pass, if_pos (by omega)]
    have : endOf l v a = a := by
      rw [endOf, if_pos (by omega), if_neg (by have := h a (by omega); omega)]
    rw [this, if_neg (by omega)]
    exact ih (a + 1) (by omega)

def downs (l : List Int) : Nat → List Int → List Int
  | 0, out => out
  | v + 1, out => downs l v (pass l ((v : Int) + 1) 0 out)

theorem downs_perm (l : List Int) : ∀ (v : Nat) (out : List Int), out.length = l.length → (downs l v out).Perm out
  | 0, _, _ => List.Perm.refl _
  | v + 1, out, h => (downs_perm l v _ (by rw [(pass_perm l _ 0 out h).length_eq]; exact h)).trans (pass_perm l _ 0 out h)

theorem downs_top (l : List Int) (out : List Int) (t : Nat) (h : ∀ b, b < l.length → l.getD b 0 ≤ t) : ∀ v, t ≤ v → downs l v out = downs l t out := by
  intro v hv
  induction v with
  | zero => have : t = 0 := by omega
            subst this; rfl
  | succ v ih =>
    by_cases e : t = v + 1
    · rw [e]
    · rw [downs, pass_none _ _ _ _ (fun b hb => by have := h b hb; omega)]
      exact ih (by omega)

def iota (n : Nat) : List Int := (List.range n).map Int.ofNat
theorem iota_succ (n : Nat) : iota (n + 1) = iota n ++ [(n : Int)] := by simp [iota, List.range_succ]
theorem iota_length (n : Nat) : (iota n).length = n := by simp [iota]

def cl (n : Int) : Int := mn (mx n 0) 126
theorem cl_lo (n : Int) : 0 ≤ cl n := by unfold cl mn mx; repeat' split
                                         all_goals omega
theorem cl_hi (n : Int) : cl n ≤ 126 := by unfold cl mn mx; repeat' split
                                           all_goals omega

/-! ### The program's loops -/
theorem o3 (out l : List Int) (v : Int) (a : Nat) (r : List Int) (ho : out.length = l.length) (hl : l.length ≤ 17592186044416) :
    ∀ (b : Nat), a ≤ b → b ≤ l.length → E (fun k => if a < endOf l v b then bidi_Order.l2 k (rev out a (endOf l v b)) l v ((endOf l v b + 1 : Nat) : Int) else bidi_Order.l2 k out l v ((a + 1 : Nat) : Int)) r →
      E (fun k => bidi_Order.l3 k out l v a b) r := by
  intro b hab hb H
  induction h : l.length - b generalizing b with
  | zero =>
    have hbe : b = l.length := by omega
    have he : endOf l v b = b := by rw [endOf, if_neg (by omega)]
    rw [he] at H
    refine E.succ (h := _) (fun k => by simp only [bidi_Order.l3]; rw [if_neg (by omega)]) ?_
    by_cases hlt : a < b
    · simp only [if_pos hlt] at H
      simp only [if_pos (show (b : Int) > (a : Int) by omega), slices_Reverse_int_int.f]
      rw [if_pos (by omega)]
      simp only [Option.bind_some, w64 (n := (b : Int) + 1) (by omega) (by omega), Int.toNat_natCast]
      exact H
    · simp only [if_neg hlt] at H
      simp only [if_neg (show ¬ (b : Int) > (a : Int) by omega), w64 (n := (a : Int) + 1) (by omega) (by omega)]
      exact H
  | succ n ih =>
    by_cases hv : v ≤ l.getD b 0
    · have he : endOf l v b = endOf l v (b + 1) := by rw [endOf, if_pos (by omega), if_pos hv]
      rw [he] at H
      have := ih (b + 1) (by omega) (by omega) H (by omega)
      refine E.succ (h := _) (fun k => by simp only [bidi_Order.l3]; rw [if_pos (by omega), if_pos (by omega), rd_nat, if_pos hv, w64 (by omega) (by omega), nat_one]) this
    · have he : endOf l v b = b := by rw [endOf, if_pos (by omega), if_neg hv]
      rw [he] at H
      refine E.succ (h := _) (fun k => by simp only [bidi_Order.l3]; rw [if_pos (by omega), if_pos (by omega), rd_nat, if_neg hv]) ?_
      by_cases hlt : a < b
      · simp only [if_pos hlt] at H
        simp only [if_pos (show (b : Int) > (a : Int) by omega), slices_Reverse_int_int.f]
        rw [if_pos (by omega)]
        simp only [Option.bind_some, w64 (n := (b : Int) + 1) (by omega) (by omega), Int.toNat_natCast]
        exact H
      · simp only [if_neg hlt] at H
        simp only [if_neg (show ¬ (b : Int) > (a : Int) by omega), w64 (n := (a : Int) + 1) (by omega) (by omega)]
        exact H

theorem o2 (l : List Int) (v : Int) (r : List Int) (hl : l.length ≤ 17592186044416) :
    ∀ (a : Nat) (out : List Int), out.length = l.length → E (fun k => bidi_Order.l1 k (pass l v a out) l (wrap64 (v - 1))) r → E (fun k => bidi_Order.l2 k out l v (a : Int)) r := by
  intro a out ho H
  induction h : l.length - a using Nat.strongRecOn generalizing a out with
  | _ n ih =>
    by_cases ha : a < l.length
    · refine E.succ (h := _) (fun k => by simp only [bidi_Order.l2]; rw [if_pos (by omega)]) ?_
      rw [pass, if_pos ha] at H
      have hge := endOf_ge l v a
      have hle := endOf_le l v a (by omega)
      refine o3 out l v a r ho hl a (Nat.le_refl _) (by omega) ?_
      by_cases hlt : a < endOf l v a
      · simp only [if_pos hlt] at H ⊢
        exact ih _ (by omega) _ _ (by rw [rev_length _ _ _ (by omega) (by omega)]; exact ho) H rfl
      · simp only [if_neg hlt] at H ⊢
        exact ih _ (by omega) _ _ ho H rfl
    · refine E.succ (h := _) (fun k => by simp only [bidi_Order.l2]; rw [if_neg (by omega)]) ?_
      rw [pass, if_neg ha] at H
      exact H

theorem o1 (l : List Int) (hl : l.length ≤ 17592186044416) : ∀ (v : Nat), v ≤ 126 → ∀ (out : List Int), out.length = l.length → E (fun k => bidi_Order.l1 k out l (v : Int)) (downs l v out)
  | 0, _, out, _ => E.succ (h := fun _ => some out) (fun k => by simp only [bidi_Order.l1]; rw [if_neg (by omega)]) E.of
  | v + 1, hv, out, ho => by
    refine E.succ (h := _) (fun k => by simp only [bidi_Order.l1]; rw [if_pos (by omega)]) ?_
    refine o2 l _ _ hl 0 out ho ?_
    rw [w64 (by omega) (by omega)]
    have e : ((v + 1 : Nat) : Int) - 1 = (v : Int) := by omega
    rw [e]
    exact o1 l hl v (by omega) _ (by rw [(pass_perm l _ 0 out ho).length_eq]; exact ho)

theorem set_mid (p q : List Int) (z x : Int) (n : Nat) (hn : n = p.length) : (p ++ z :: q).set n x = (p ++ [x]) ++ q := by
  subst hn
  induction p with
  | nil => rfl
  | cons a p ih => simp

theorem o0 (l0 : List Int) (r : List Int) (hl : l0.length ≤ 17592186044416) (H : E (fun k => bidi_Order.l1 k (iota l0.length) (l0.map cl) 126) r) :
    ∀ (d i : Nat), i + d = l0.length → E (fun k => bidi_Order.l0 k (iota i ++ List.replicate d 0) ((l0.take i).map cl ++ List.replicate d 0) l0 (l0.length : Int) (i : Int)) r := by
  intro d
  induction d with
  | zero =>
    intro i hi
    refine E.succ (h := _) (fun k => by simp only [bidi_Order.l0]; rw [if_neg (by omega)]) ?_
    have e : i = l0.length := by omega
    subst e
    simpa using H
  | succ d ih =>
    intro i hi
    have hi2 : i < l0.length := by omega
    have e1 : (iota i ++ List.replicate (d + 1) (0 : Int)).set i (i : Int) = iota (i + 1) ++ List.replicate d 0 := by
      rw [List.replicate_succ, set_mid _ _ _ _ _ (iota_length i).symm, iota_succ]
    have e2 : ((l0.take i).map cl ++ List.replicate (d + 1) (0 : Int)).set i (cl (l0.getD i 0)) = (l0.take (i + 1)).map cl ++ List.replicate d 0 := by
      rw [List.replicate_succ, set_mid _ _ _ _ _ (by simp; omega), List.take_add_one, List.map_append]
      congr 2
      rw [List.getD_eq_getElem?_getD, List.getElem?_eq_getElem hi2]
      rfl
    refine E.succ (h := _) (fun k => by
      simp only [bidi_Order.l0]
      rw [if_pos (by omega), if_pos (by omega), if_pos (by omega), if_pos (by simp [iota]; omega), if_pos (by simp; omega), rd_nat, Int.toNat_natCast, e1]
      show bidi_Order.l0 k _ (((l0.take i).map cl ++ List.replicate (d + 1) (0 : Int)).set i (cl (l0.getD i 0))) _ _ _ = _
      rw [e2, w64 (by omega) (by omega), nat_one]) (ih (i + 1) (by omega))

theorem order_f (l0 : List Int) (hl : l0.length ≤ 17592186044416) : E (fun k => bidi_Order.f k l0) (downs (l0.map cl) 126 (iota l0.length)) := by
  have h := o0 l0 _ hl (o1 (l0.map cl) (by simpa using hl) 126 (by omega) (iota l0.length) (by simp [iota])) l0.length 0 (by omega)
  unfold bidi_Order.f
  simp only [if_pos (show (0 : Int) ≤ (l0.length : Int) by omega), Int.toNat_natCast, if_pos (show l0.length ≤ 35184372088832 by omega)]
  simpa [iota] using h

/-! ### The document's loops -/
theorem r4 (l : List Int) (v : Int) (b : Nat) (r : List Int) (hl : l.length ≤ 17592186044416) :
    ∀ (n : Nat) (i : Nat) (j : Int) (out : List Int), out.length = l.length → j + 1 - i = n ∨ (n = 0 ∧ j + 1 ≤ i) → i ≤ l.length → j < l.length → -1 ≤ j →
      E (fun k => serifref13_Order.l2 k l (if (i : Int) ≤ j + 1 then rev out i (j + 1).toNat else out) v (wrap64 ((b : Int) + 1))) r → E (fun k => serifref13_Order.l4 k l out v (b : Int) (i : Int) j) r := by
  intro n
  induction n using Nat.strongRecOn with
  | _ n ih =>
    intro i j out ho hn hi hj hj0 H
    by_cases hlt : (i : Int) < j
    · obtain ⟨jn, rfl⟩ : ∃ m : Nat, j = m := ⟨j.toNat, by omega⟩
      rw [if_pos (by omega)] at H
      have e := rev_step out i (jn + 1) (by omega) (by omega)
      simp only [Nat.add_sub_cancel] at e
      have H2 := ih (n - 2) (by omega) (i + 1) ((jn : Int) - 1) ((out.set i (out.getD jn 0)).set jn (out.getD i 0)) (by simpa using ho) (by omega) (by omega) (by omega) (by omega) (by
        rw [if_pos (by omega)]
        have e3 : ((jn : Int) - 1 + 1).toNat = jn := by omega
        have e4 : ((jn : Int) + 1).toNat = jn + 1 := by omega
        rw [e3, e]
        rw [e4] at H
        exact H)
      refine E.succ (h := _) (fun k => by
        simp only [serifref13_Order.l4]
        rw [if_pos hlt, if_pos (by omega), if_pos (by omega), if_pos (by omega), if_pos (by omega), rd_nat, rd_nat, Int.toNat_natCast, Int.toNat_natCast, w64 (by omega) (by omega), w64 (by omega) (by omega)]) ?_
      have e5 : ((i : Int) + 1) = ((i + 1 : Nat) : Int) := by omega
      rw [e5]
      exact H2
    · refine E.succ (h := _) (fun k => by simp only [serifref13_Order.l4]; rw [if_neg hlt]) ?_
      have e : (if (i : Int) ≤ j + 1 then rev out i (j + 1).toNat else out) = out := by
        split
        · by_cases e2 : j = i
          · subst e2
            have : ((i : Int) + 1).toNat = i + 1 := by omega
            rw [this]
            exact rev_one out i (by omega)
          · have : (j + 1).toNat = i := by omega
            rw [this]
            exact rev_same out i (by omega)
        · rfl
      rw [e] at H
      exact H

theorem r3 (out l : List Int) (v : Int) (a : Nat) (r : List Int) (ho : out.length = l.length) (hl : l.length ≤ 17592186044416) (ha : a ≤ l.length) :
    ∀ (b : Nat), a ≤ b → b ≤ l.length → E (fun k => serifref13_Order.l2 k l (rev out a (endOf l v b)) v ((endOf l v b + 1 : Nat) : Int)) r →
      E (fun k => serifref13_Order.l3 k l out v a b) r := by
  intro b hab hb H
  have fin : ∀ b : Nat, a ≤ b → b ≤ l.length → endOf l v b = b → E (fun k => serifref13_Order.l2 k l (rev out a (endOf l v b)) v ((endOf l v b + 1 : Nat) : Int)) r → E (fun k => serifref13_Order.j5 k l out v a b) r := by
    intro b hab hb he H
    rw [he] at H
    refine E.succ (h := fun k => serifref13_Order.l4 k l out v (b : Int) (a : Int) (wrap64 ((b : Int) - 1))) (fun k => rfl) ?_
    rw [w64 (by omega) (by omega)]
    refine r4 l v b r hl (b - a) a ((b : Int) - 1) out ho (by omega) ha (by omega) (by omega) ?_
    rw [if_pos (by omega), w64 (by omega) (by omega)]
    have : ((b : Int) - 1 + 1).toNat = b := by omega
    rw [this]
    exact H
  induction h : l.length - b generalizing b with
  | zero =>
    have he : endOf l v b = b := by rw [endOf, if_neg (by omega)]
    refine E.succ (h := _) (fun k => by simp only [serifref13_Order.l3]; rw [if_neg (by omega)]) (fin b hab hb he H)
  | succ n ih =>
    by_cases hv : v ≤ l.getD b 0
    · have he : endOf l v b = endOf l v (b + 1) := by rw [endOf, if_pos (by omega), if_pos hv]
      rw [he] at H
      have := ih (b + 1) (by omega) (by omega) H (by omega)
      refine E.succ (h := _) (fun k => by simp only [serifref13_Order.l3]; rw [if_pos (by omega), if_pos (by omega), rd_nat, if_pos hv, w64 (by omega) (by omega), nat_one]) this
    · have he : endOf l v b = b := by rw [endOf, if_pos (by omega), if_neg hv]
      refine E.succ (h := _) (fun k => by simp only [serifref13_Order.l3]; rw [if_pos (by omega), if_pos (by omega), rd_nat, if_neg hv]) (fin b hab hb he H)

theorem r2 (l : List Int) (v : Int) (r : List Int) (hl : l.length ≤ 17592186044416) :
    ∀ (a : Nat) (out : List Int), out.length = l.length → E (fun k => serifref13_Order.l1 k l (pass l v a out) (wrap64 (v - 1))) r → E (fun k => serifref13_Order.l2 k l out v (a : Int)) r := by
  intro a out ho H
  induction h : l.length - a using Nat.strongRecOn generalizing a out with
  | _ n ih =>
    by_cases ha : a < l.length
    · refine E.succ (h := _) (fun k => by simp only [serifref13_Order.l2]; rw [if_pos (by omega)]) ?_
      rw [pass, if_pos ha] at H
      have hge := endOf_ge l v a
      have hle := endOf_le l v a (by omega)
      refine r3 out l v a r ho hl (by omega) a (Nat.le_refl _) (by omega) ?_
      by_cases hlt : a < endOf l v a
      · rw [if_pos hlt] at H
        exact ih _ (by omega) _ _ (by rw [rev_length _ _ _ (by omega) (by omega)]; exact ho) H rfl
      · rw [if_neg hlt] at H
        have e : endOf l v a = a := by omega
        rw [e, rev_same _ _ (by omega)]
        exact ih _ (by omega) _ _ ho H rfl
    · refine E.succ (h := _) (fun k => by simp only [serifref13_Order.l2]; rw [if_neg (by omega)]) ?_
      rw [pass, if_neg ha] at H
      exact H

theorem r1 (l : List Int) (hl : l.length ≤ 17592186044416) : ∀ (v : Nat), v ≤ 126 → ∀ (out : List Int), out.length = l.length → E (fun k => serifref13_Order.l1 k l out (v : Int)) (downs l v out)
  | 0, _, out, _ => E.succ (h := fun _ => some out) (fun k => by simp only [serifref13_Order.l1]; rw [if_neg (by omega)]) E.of
  | v + 1, hv, out, ho => by
    refine E.succ (h := _) (fun k => by simp only [serifref13_Order.l1]; rw [if_pos (by omega)]) ?_
    refine r2 l _ _ hl 0 out ho ?_
    rw [w64 (by omega) (by omega)]
    have e : ((v + 1 : Nat) : Int) - 1 = (v : Int) := by omega
    rw [e]
    exact r1 l hl v (by omega) _ (by rw [(pass_perm l _ 0 out ho).length_eq]; exact ho)

theorem r0 (l0 : List Int) (hl : l0.length < 17592186044416) :
    ∀ (d i : Nat) (t : Nat), i + d = l0.length → t ≤ 126 → (∀ x ∈ (l0.take i).map cl, x ≤ t) → E (fun k => serifref13_Order.l0 k ((l0.take i).map cl) (iota i) (t : Int) l0 (l0.length : Int) (i : Int)) (downs (l0.map cl) 126 (iota l0.length)) := by
  intro d
  induction d with
  | zero =>
    intro i t hi ht hx
    have e : i = l0.length := by omega
    subst e
    rw [List.take_length] at hx ⊢
    refine E.succ (h := _) (fun k => by simp only [serifref13_Order.l0]; rw [if_neg (by omega)]) ?_
    rw [downs_top (l0.map cl) (iota l0.length) t (fun b hb => hx _ (by rw [List.getD_eq_getElem?_getD, List.getElem?_eq_getElem hb]; exact List.getElem_mem hb)) 126 ht]
    exact r1 (l0.map cl) (by simp; omega) t ht (iota l0.length) (by simp [iota])
  | succ d ih =>
    intro i t hi ht hx
    have hi2 : i < l0.length := by omega
    have hti : (l0.take (i + 1)).map cl = (l0.take i).map cl ++ [cl (l0.getD i 0)] := by
      rw [List.take_add_one, List.map_append]
      congr 1
      rw [List.getD_eq_getElem?_getD, List.getElem?_eq_getElem hi2]
      rfl
    have go : ∀ t2 : Nat, t2 ≤ 126 → t ≤ t2 → cl (l0.getD i 0) ≤ t2 → E (fun k => serifref13_Order.l0 k ((l0.take i).map cl ++ [cl (l0.getD i 0)]) (iota i ++ [(i : Int)]) (t2 : Int) l0 (l0.length : Int) ((i + 1 : Nat) : Int)) (downs (l0.map cl) 126 (iota l0.length)) := by
      intro t2 h1 h2 h3
      rw [← hti, ← iota_succ]
      refine ih (i + 1) t2 (by omega) h1 (fun x hxm => ?_)
      rw [hti] at hxm
      rcases List.mem_append.1 hxm with h | h
      · have := hx x h; omega
      · rw [List.mem_singleton.1 h]; exact h3
    have hlen1 : ((l0.take i).map cl).length < 17592186044416 := by simp; omega
    have hlen2 : (iota i).length < 17592186044416 := by rw [iota_length]; omega
    have j1 : ∀ y : Int, (y = 0 ∧ l0.getD i 0 < 0) ∨ (y = l0.getD i 0 ∧ 0 ≤ l0.getD i 0) → E (fun k => serifref13_Order.j1 k ((l0.take i).map cl) (iota i) (t : Int) (i : Int) y l0 (l0.length : Int) (i : Int)) (downs (l0.map cl) 126 (iota l0.length)) := by
      intro y hy
      have hcl : cl (l0.getD i 0) = if y > 126 then 126 else y := by
        unfold cl mn mx
        repeat' split
        all_goals omega
      by_cases h126 : y > 126
      · rw [if_pos h126] at hcl
        by_cases ht2 : (126 : Int) > t
        · have g := go 126 (by omega) (by omega) (by omega)
          refine E.succ (h := _) (fun k => by simp only [serifref13_Order.j1]; rw [if_pos h126, if_pos ht2, if_pos hlen1, if_pos hlen2, w64 (by omega) (by omega), nat_one]) ?_
          rw [hcl] at g
          exact g
        · have g := go t (by omega) (by omega) (by omega)
          refine E.succ (h := _) (fun k => by simp only [serifref13_Order.j1]; rw [if_pos h126, if_neg ht2, if_pos hlen1, if_pos hlen2, w64 (by omega) (by omega), nat_one]) ?_
          rw [hcl] at g
          exact g
      · rw [if_neg h126] at hcl
        by_cases ht2 : y > t
        · have g := go y.toNat (by omega) (by omega) (by omega)
          refine E.succ (h := _) (fun k => by simp only [serifref13_Order.j1]; rw [if_neg h126, if_pos ht2, if_pos hlen1, if_pos hlen2, w64 (by omega) (by omega), nat_one]) ?_
          have e : ((y.toNat : Nat) : Int) = y := by omega
          rw [hcl, e] at g
          exact g
        · have g := go t (by omega) (by omega) (by omega)
          refine E.succ (h := _) (fun k => by simp only [serifref13_Order.j1]; rw [if_neg h126, if_neg ht2, if_pos hlen1, if_pos hlen2, w64 (by omega) (by omega), nat_one]) ?_
          rw [hcl] at g
          exact g
    by_cases hneg : l0.getD i 0 < 0
    · refine E.succ (h := _) (fun k => by simp only [serifref13_Order.l0]; rw [if_pos (by omega), if_pos (by omega), if_pos (by omega), rd_nat, if_pos hneg]) (j1 0 (.inl ⟨rfl, hneg⟩))
    · refine E.succ (h := _) (fun k => by simp only [serifref13_Order.l0]; rw [if_pos (by omega), if_pos (by omega), if_pos (by omega), rd_nat, if_neg hneg]) (j1 _ (.inr ⟨rfl, by omega⟩))

theorem ref_f (l0 : List Int) (hl : l0.length < 17592186044416) : E (fun k => serifref13_Order.f k l0) (downs (l0.map cl) 126 (iota l0.length)) := by
  unfold serifref13_Order.f
  exact r0 l0 hl l0.length 0 0 (by omega) (by omega) (by simp)

/-! ### The law -/
theorem same_l0 (l : List Int) (hl : l.length < 17592186044416) : ∀ (d i : Nat), i + d = l.length → E (fun k => serifref02_SameInts.l0 k l l (l.length : Int) (i : Int)) true := by
  intro d
  induction d with
  | zero =>
    intro i hi
    exact E.succ (h := fun _ => some true) (fun k => by simp only [serifref02_SameInts.l0]; rw [if_neg (by omega)]) E.of
  | succ d ih =>
    intro i hi
    exact E.succ (h := _) (fun k => by simp only [serifref02_SameInts.l0]; rw [if_pos (by omega), if_pos (by omega), if_pos (by omega), if_pos (by omega), if_pos trivial, w64 (by omega) (by omega), nat_one]) (ih (i + 1) (by omega))

theorem same_f (l : List Int) (hl : l.length < 17592186044416) : E (fun k => serifref02_SameInts.f k l l) true := by
  unfold serifref02_SameInts.f
  simp only [if_true]
  exact same_l0 l hl l.length 0 (by omega)

theorem iota_mem {n : Nat} {x : Int} (h : x ∈ iota n) : 0 ≤ x ∧ x < n := by
  simp only [iota, List.mem_map, List.mem_range] at h
  obtain ⟨m, h1, rfl⟩ := h
  exact ⟨by simp, by simpa using h1⟩

theorem iota_nodup (n : Nat) : (iota n).Nodup := by
  unfold iota List.Nodup
  rw [List.pairwise_map]
  exact List.Pairwise.imp (fun h e => h (Int.ofNat.inj e)) (List.nodup_range (n := n))

theorem seen_l0 (l0 o : List Int) (n : Nat) (hn : n < 17592186044416) (hl : l0.length = n) (hp : o.Perm (iota n)) :
    ∀ (d i : Nat) (x5 : List Bool), i + d = n → x5.length = n → (∀ q : Nat, x5.getD q false = true → (q : Int) ∈ o.take i) →
      E (fun k => seriflaw13_BidiOrders.l0 k l0 o x5 o (o.length : Int) (i : Int)) true := by
  have ho : o.length = n := by rw [hp.length_eq, iota_length]
  have hnd : o.Nodup := hp.nodup_iff.2 (iota_nodup n)
  intro d
  induction d with
  | zero =>
    intro i x5 hi h5 hs
    refine E.succ (h := fun _ => some true) (fun k => by simp only [seriflaw13_BidiOrders.l0]; rw [if_neg (by omega), ho, hl]; simp) E.of
  | succ d ih =>
    intro i x5 hi h5 hs
    have hio : i < o.length := by omega
    have hx := iota_mem (hp.mem_iff.1 (List.getElem_mem hio))
    obtain ⟨p, hpp⟩ : ∃ p : Nat, o[i] = (p : Int) := ⟨o[i].toNat, by omega⟩
    have hrd : rd o (i : Int) = (p : Int) := by rw [rd_nat, List.getD_eq_getElem?_getD, List.getElem?_eq_getElem hio, ← hpp]; rfl
    have hns : ¬ rdOf false x5 (p : Int) = true := by
      intro h
      have h2 : x5.getD p false = true := by simpa [rdOf] using h
      have h3 := hs p h2
      rw [← hpp] at h3
      obtain ⟨j, hj, he⟩ := List.mem_take_iff_getElem.1 h3
      have := (List.getElem_inj (h₀ := by omega) (h₁ := hio) hnd).1 he
      omega
    refine E.succ (h := _) (fun k => by
      simp only [seriflaw13_BidiOrders.l0]
      rw [if_pos (by omega), if_pos (by omega), if_pos (by omega), hrd, if_neg (by omega), if_neg (by omega), if_pos (by omega), if_pos (by omega), if_neg hns, Int.toNat_natCast, w64 (by omega) (by omega), nat_one]) (ih (i + 1) (x5.set p true) (by omega) (by simpa using h5) (fun q hq => ?_))
    rw [List.take_add_one, List.mem_append]
    by_cases e : p = q
    · right
      subst e
      rw [List.getElem?_eq_getElem hio, hpp]
      simp
    · left
      refine hs q ?_
      rw [List.getD_eq_getElem?_getD, List.getElem?_set_ne e] at hq
      rw [List.getD_eq_getElem?_getD]; exact hq

theorem BidiOrders : seriflaw13_BidiOrders.Pure := by
  intro l0 _ hb _
  have hn : l0.length < 17592186044416 := by omega
  have ho := order_f l0 (by omega)
  have hr := ref_f l0 hn
  have hp : (downs (l0.map cl) 126 (iota l0.length)).Perm (iota l0.length) := downs_perm _ _ _ (by simp [iota])
  generalize downs (l0.map cl) 126 (iota l0.length) = o at ho hr hp
  have hol : o.length = l0.length := by rw [hp.length_eq, iota_length]
  refine E.ex (r := true) ?_
  unfold seriflaw13_BidiOrders.f
  simp only [seriflaw13_bidiAlive.f, Option.bind_some, if_true, List.nil_append, List.length_nil, Nat.zero_add, if_pos hn]
  refine E.bind ho (E.bind hr (E.bind (same_f o (by omega)) ?_))
  simp only [if_true]
  refine E.bind (same_f l0 hn) ?_
  refine E.succ (h := _) (fun k => by simp only [seriflaw13_BidiOrders.j0]; rw [if_neg (by simp), if_pos (by omega), if_pos (by omega)]) ?_
  refine seen_l0 l0 o l0.length hn rfl hp l0.length 0 _ (by omega) (by simp) (fun q hq => ?_)
  rw [List.getD_eq_getElem?_getD, List.getElem?_replicate] at hq
  split at hq <;> simp at hq

end Go.Proofs.Ythkklpegjcnjoaa.Pure
