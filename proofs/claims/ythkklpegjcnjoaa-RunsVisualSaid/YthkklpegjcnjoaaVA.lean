/- A part of the proof: rules for walking code over the evaluator, and what the functions that were walked come to: no condition but those that each theorem states. -/
import Derived.Test.YthkklpegjcnjoaaLgB
import Derived.Test.YthkklpegjcnjoaaTD
import Derived.Test.YthkklpegjcnjoaaTE
set_option linter.unusedVariables false
set_option linter.unusedSimpArgs false
namespace Go.Ab
set_option linter.unusedVariables false
set_option linter.unusedSimpArgs false

/-! ### The plain order -/
def endOf (l : List Int) (v : Int) (b : Nat) : Nat :=
  if b < l.length then (if v ≤ l.getD b 0 then endOf l v (b + 1) else b) else b
termination_by l.length - b

theorem endOf_ge (l : List Int) (v : Int) (b : Nat) : b ≤ endOf l v b := by
  induction h : l.length - b generalizing b with
  | zero => rw [endOf]; split <;> omega
  | succ n ih =>
    rw [endOf]
    split
    · split
      · have := ih (b + 1) (by omega); omega
      · omega
    · omega

theorem endOf_le (l : List Int) (v : Int) (b : Nat) (hb : b ≤ l.length) : endOf l v b ≤ l.length := by
  induction h : l.length - b generalizing b with
  | zero => rw [endOf]; split <;> omega
  | succ n ih =>
    rw [endOf]
    split
    · split
      · exact ih (b + 1) (by omega) (by omega)
      · omega
    · omega

def rev (out : List Int) (a b : Nat) : List Int := out.take a ++ ((out.drop a).take (b - a)).reverse ++ out.drop b

theorem rev_length (out : List Int) (a b : Nat) (h : a ≤ b) (hb : b ≤ out.length) : (rev out a b).length = out.length := by
  simp only [rev, List.length_append, List.length_take, List.length_reverse, List.length_drop]
  omega

theorem rev_get (out : List Int) (a b : Nat) (h : a ≤ b) (hb : b ≤ out.length) (p : Nat) : (rev out a b)[p]? = if a ≤ p ∧ p < b then out[a + b - 1 - p]? else out[p]? := by
  unfold rev
  rw [List.append_assoc, List.getElem?_append, List.length_take, List.getElem?_append, List.length_reverse, List.length_take, List.length_drop]
  by_cases h1 : p < a
  · rw [if_pos (by omega), if_neg (by omega), List.getElem?_take, if_pos h1]
  · rw [if_neg (by omega)]
    by_cases h2 : p < b
    · rw [if_pos (by omega), if_pos (by omega), List.getElem?_reverse (by simp only [List.length_take, List.length_drop]; omega), List.length_take, List.length_drop, List.getElem?_take, if_pos (by omega), List.getElem?_drop]
      congr 1
      omega
    · rw [if_neg (by omega), if_neg (by omega), List.getElem?_drop]
      congr 1
      omega

theorem rev_perm (out : List Int) (a b : Nat) (h : a ≤ b) (hb : b ≤ out.length) : (rev out a b).Perm out := by
  have e : out = out.take a ++ (out.drop a).take (b - a) ++ out.drop b := by
    rw [List.append_assoc]
    have : (out.drop a).take (b - a) ++ out.drop b = out.drop a := by
      have h2 : out.drop b = (out.drop a).drop (b - a) := by rw [List.drop_drop]; congr 1; omega
      rw [h2, List.take_append_drop]
    rw [this, List.take_append_drop]
  unfold rev
  conv => rhs; rw [e]
  exact ((List.Perm.refl _).append (List.reverse_perm _)).append (List.Perm.refl _)

theorem rev_same (out : List Int) (a : Nat) (ha : a ≤ out.length) : rev out a a = out := by
  simp [rev]

theorem rev_one (out : List Int) (a : Nat) (ha : a < out.length) : rev out a (a + 1) = out := by
  apply List.ext_getElem?
  intro p
  rw [rev_get _ _ _ (by omega) (by omega)]
  split
  · congr 1; omega
  · rfl

theorem rev_step (out : List Int) (a b : Nat) (h : a + 1 < b) (hb : b ≤ out.length) :
    rev ((out.set a (out.getD (b - 1) 0)).set (b - 1) (out.getD a 0)) (a + 1) (b - 1) = rev out a b := by
  apply List.ext_getElem?
  intro p
  have hl : ((out.set a (out.getD (b - 1) 0)).set (b - 1) (out.getD a 0)).length = out.length := by simp
  rw [rev_get _ _ _ (by omega) (by omega), rev_get _ _ _ (by omega) hb]
  have hg : ∀ q, q < out.length → out[q]? = some (out.getD q 0) := by
    intro q hq
    rw [List.getD_eq_getElem?_getD, List.getElem?_eq_getElem hq]; rfl
  by_cases h1 : a + 1 ≤ p ∧ p < b - 1
  · rw [if_pos h1, if_pos (by omega), List.getElem?_set_ne (by omega), List.getElem?_set_ne (by omega)]
    congr 1; omega
  · rw [if_neg h1]
    by_cases h2 : p = a
    · subst h2
      rw [if_pos (by omega), List.getElem?_set_ne (by omega), List.getElem?_set_self (by omega), hg _ (by omega)]
      congr 2; omega
    · by_cases h3 : p = b - 1
      · subst h3
        rw [if_pos (by omega), List.getElem?_set_self (by simp; omega), hg _ (by omega)]
        congr 2; omega
      · rw [if_neg (by omega), List.getElem?_set_ne (by omega), List.getElem?_set_ne (by omega)]

def pass (l : List Int) (v : Int) (a : Nat) (out : List Int) : List Int :=
  if a < l.length then (if a < endOf l v a then pass l v (endOf l v a + 1) (rev out a (endOf l v a)) else pass l v (a + 1) out) else out
termination_by l.length - a
decreasing_by all_goals omega

theorem pass_perm (l : List Int) (v : Int) (a : Nat) (out : List Int) (hl : out.length = l.length) : (pass l v a out).Perm out := by
  induction h : l.length - a using Nat.strongRecOn generalizing a out with
  | _ n ih =>
    rw [pass]
    split
    · have hle := endOf_le l v a (by omega)
      split
      · exact (ih _ (by omega) _ _ (by rw [rev_length _ _ _ (by omega) (by omega)]; exact hl) rfl).trans (rev_perm _ _ _ (by omega) (by omega))
      · exact ih _ (by omega) _ _ hl rfl
    · exact List.Perm.refl _

theorem pass_none (l : List Int) (v : Int) (a : Nat) (out : List Int) (h : ∀ b, b < l.length → l.getD b 0 < v) : pass l v a out = out := by
  induction h2 : l.length - a generalizing a with
  | zero => rw [pass, if_neg (by omega)]
  | succ n ih =>
    rw [pass, if_pos (by omega)]
    have : endOf l v a = a := by
      rw [endOf, if_pos (by omega), if_neg (by have := h a (by omega); omega)]
    rw [this, if_neg (by omega)]
    exact ih (a + 1) (by omega)

def downs (l : List Int) : Nat → List Int → List Int
  | 0, out => out
  | v + 1, out => downs l v (pass l ((v : Int) + 1) 0 out)

theorem downs_perm (l : List Int) : ∀ (v : Nat) (out : List Int), out.length = l.length → (downs l v out).Perm out
  | 0, _, _ => List.Perm.refl _
  | v + 1, out, h => (downs_perm l v _ (by rw [(pass_perm l _ 0 out h).length_eq]; exact h)).trans (pass_perm l _ 0 out h)

theorem downs_top (l : List Int) (out : List Int) (t : Nat) (h : ∀ b, b < l.length → l.getD b 0 ≤ t) : ∀ v, t ≤ v → downs l v out = downs l t out := by
  intro v hv
  induction v with
  | zero => have : t = 0 := by omega
            subst this; rfl
  | succ v ih =>
    by_cases e : t = v + 1
    · rw [e]
    · rw [downs, pass_none _ _ _ _ (fun b hb => by have := h b hb; omega)]
      exact ih (by omega)

def iota (n : Nat) : List Int := (List.range n).map Int.ofNat
theorem iota_succ (n : Nat) : iota (n + 1) = iota n ++ [(n : Int)] := by simp [iota, List.range_succ]
theorem iota_length (n : Nat) : (iota n).length = n := by simp [iota]

def cl (n : Int) : Int := if (if n < 0 then 0 else n) > 126 then 126 else (if n < 0 then 0 else n)
theorem cl_lo (n : Int) : 0 ≤ cl n := by
  unfold cl
  repeat' split
  all_goals omega
theorem cl_hi (n : Int) : cl n ≤ 126 := by
  unfold cl
  repeat' split
  all_goals omega
theorem downs_length (l : List Int) (v : Nat) (out : List Int) (h : out.length = l.length) : (downs l v out).length = out.length := (downs_perm l v out h).length_eq
theorem pass_length (l : List Int) (v : Int) (a : Nat) (out : List Int) (h : out.length = l.length) : (pass l v a out).length = out.length := (pass_perm l v a out h).length_eq
/-- The places from left to right. -/
def visM (L : List Int) : List Int := downs (L.map cl) 126 (iota L.length)
theorem visM_length (L : List Int) : (visM L).length = L.length := by
  unfold visM
  rw [downs_length _ _ _ (by simp [iota_length]), iota_length]
end Go.Ab

namespace Go.Proofs.Ythkklpegjcnjoaa
open Go.Ab
variable {X : CallE} {ro : Nat}
set_option maxRecDepth 10000
set_option linter.unusedVariables false
set_option linter.unusedSimpArgs false

theorem ints_setO {L : List Int} {o : Nat} {i v : Int} : (L.map (Value.int .i64)).set (o + i.toNat * 1) (.int .i64 v) = (L.set (o + i.toNat) v).map (Value.int .i64) := by
  rw [List.map_set]; congr 1; omega
theorem rd_getD {L : List Int} {k : Nat} {i : Int} (h : i = k) : rd L i = L.getD k 0 := by subst h; unfold rd; rw [Int.toNat_natCast]

theorem reverse_sp {s : St} {H : Hp} {ν o n c : Nat} {L : List Int} (hX : OwnX X) (hM : Models ro s H) (hL : H ν = some (.row 1 (L.map (.int .i64)))) (hn : o + n ≤ L.length) (hbig : L.length ≤ 17592186044416) :
    Sp X Try.prog ro 33 [.slice (some ⟨ν, o, none⟩) n c] s fun v H' => v = .tuple #[] ∧ H' = H.up ν (.row 1 ((rev L o (o + n)).map (.int .i64))) := by
  refine Sp.of_body (hX _ _ _ (by decide) (by decide) (by decide) (by decide)) Try.func33 rfl Try.ntmps33 (by simp) ?_
  refine WC.seq (WC.region ?_)
  refine mvO ?_
  refine cO (SV.len rfl rfl ?_)
  refine cO (sbI ?_)
  refine asO ?_
  refine asO ?_
  refine WO.nil ?_
  refine WC.block ?_
  refine WC.loop (D := Nat × List Int) (fun x => [(0, .slice (some ⟨ν, o, none⟩) n c), (2, .int .i64 x.1), (3, .int .i64 ((n : Int) - 1 - x.1))])
    (fun x s1 => s.next ≤ s1.next ∧ Models ro s1 (H.up ν (.row 1 (x.2.map (.int .i64)))) ∧ x.2.length = L.length ∧ (x.1 : Int) ≤ n + 1 - x.1 ∧ (if x.1 < n - x.1 then rev x.2 (o + x.1) (o + (n - x.1)) else x.2) = rev L o (o + n))
    (fun x => n - x.1) (0, L) ?_ ⟨by omega, by rw [Hp.up_self hL]; exact hM, rfl, by dsimp only; omega, ?_⟩ ?_
  · exact ⟨rfl, rfl, by show some (Value.int .i64 ((n : Int) - 1)) = some (Value.int .i64 ((n : Int) - 1 - ((0 : Nat) : Int))); simp, trivial⟩
  · dsimp only
    split
    · simp
    · have : n = 0 := by omega
      subst this
      rw [Nat.add_zero, rev_same _ _ (by omega)]
  rintro ⟨i, M⟩ g s1 ⟨hn1, hM1, hlM, hi, hres⟩
  dsimp only at hn1 hM1 hlM hi hres ⊢
  refine WC.seq (WC.seq (WC.region ?_))
  refine mvO ?_
  refine mvO ?_
  refine cO (SV.lss rfl rfl ?_)
  refine WO.nil ?_
  refine WC.condD rfl (fun hlt hltb => ?_) (fun hlt hltb => ?_)
  · have hlt2 : i < n - i := by omega
    rw [if_pos hlt2] at hres
    refine WC.skip (WC.seq (WC.block ?_))
    refine WC.dr [0, 1, 2, 3, 4, 5, 6, 7, 8, 9, 10, 11, 12, 13, 14, 15] ?_
    refine mvD ?_
    refine mvD ?_
    refine mvD ?_
    refine mvD ?_
    refine mvD ?_
    refine mvD ?_
    refine cD (SV.indexAddr rfl rfl (by omega) ?_)
    refine cD (SV.loadM (by assumption) rfl (by exact Hp.up_same) (by exact ints_get (by omega) (by omega)) ?_)
    refine mvD ?_
    refine mvD ?_
    refine cD (SV.indexAddr rfl rfl (by omega) ?_)
    refine cD (SV.loadM (by assumption) rfl (by exact Hp.up_same) (by exact ints_get (by omega) (by omega)) ?_)
    refine cD (SV.indexAddr rfl rfl (by omega) ?_)
    refine WD.cons0 (SV.storeV (by assumption) rfl (by constructor) (by exact Hp.up_same) (by (simp only [List.length_map]; omega)) (fun s3_13 hn3_13 hM3_13 => ?_))
    refine cD (SV.indexAddr rfl rfl (by omega) ?_)
    refine WD.cons0 (SV.storeV (by assumption) rfl (by constructor) (by exact Hp.up_same) (by (simp; omega)) (fun s3_15 hn3_15 hM3_15 => ?_))
    refine WD.nil ?_
    rw [Hp.up_up, Hp.up_up, ints_setO, ints_setO, rd_getD (k := o + (n - i) - 1) (by omega), rd_getD (k := o + i) (by omega), show o + (i : Int).toNat = o + i by omega, show o + ((n : Int) - 1 - i).toNat = o + (n - i) - 1 by omega] at hM3_15
    have hstep := rev_step M (o + i) (o + (n - i)) (by omega) (by omega)
    refine WC.region ?_
    refine mvO ?_
    refine cO (adI ?_)
    refine mvO ?_
    refine cO (sbI ?_)
    refine asO ?_
    refine asO ?_
    refine WO.nil ?_
    refine ⟨rfl, (i + 1, (M.set (o + i) (M.getD (o + (n - i) - 1) 0)).set (o + (n - i) - 1) (M.getD (o + i) 0)), ⟨rfl, ?_, ?_, trivial⟩, ⟨by omega, hM3_15, by simpa using hlM, by dsimp only; omega, ?_⟩, by dsimp only; omega⟩
    · show some (Value.int .i64 ((i : Int) + 1)) = some (Value.int .i64 ((i + 1 : Nat) : Int)); simp
    · show some (Value.int .i64 ((n : Int) - 1 - i - 1)) = some (Value.int .i64 ((n : Int) - 1 - ((i + 1 : Nat) : Int))); congr 2; omega
    · dsimp only
      rw [← hres, ← hstep]
      split
      · rw [show o + i + 1 = o + (i + 1) by omega, show o + (n - i) - 1 = o + (n - (i + 1)) by omega]
      · have hl2 : ((M.set (o + i) (M.getD (o + (n - i) - 1) 0)).set (o + (n - i) - 1) (M.getD (o + i) 0)).length = L.length := by simpa using hlM
        generalize (M.set (o + i) (M.getD (o + (n - i) - 1) 0)).set (o + (n - i) - 1) (M.getD (o + i) 0) = M2 at hl2 ⊢
        rw [show o + (n - i) - 1 = o + i + 1 by omega]
        exact (rev_same _ _ (by rw [hl2]; omega)).symm
  · have hn2 : n - i ≤ i + 1 := by omega
    refine WC.exit ?_
    refine fin_none (e := .normal) rfl trivial hn1 hM1 ⟨rfl, ?_⟩
    rw [← hres]
    split
    · rw [show o + (n - i) = o + i + 1 by omega, rev_one _ _ (by omega)]
    · rfl

theorem Hp.up_back {H : Hp} {a b : Nat} {x x' y : Go.Ab.Obj} (h : a ≠ b) : ((H.up a x).up b y).up a x' = (H.up a x').up b y := by rw [Hp.up_comm h, Hp.up_up]

def clr (L : List Int) (k : Nat) : List Int := (L.take k).map cl ++ List.replicate (L.length - k) 0
def iot (n k : Nat) : List Int := iota k ++ List.replicate (n - k) 0
theorem clr_len {L : List Int} {k : Nat} (h : k ≤ L.length) : (clr L k).length = L.length := by unfold clr; simp; omega
theorem iot_len {n k : Nat} (h : k ≤ n) : (iot n k).length = n := by unfold iot; simp [iota_length]; omega
theorem iot_set {n k : Nat} (h : k < n) : (iot n k).set (k : Int).toNat (k : Int) = iot n (k + 1) := by
  have e := set_next (n := n) (iota k) (k : Int) (by rw [iota_length]; exact h)
  rw [iota_length, List.length_append, iota_length] at e
  rw [Int.toNat_natCast]
  unfold iot
  rw [e, iota_succ]; rfl
theorem clr_set {L : List Int} {k : Nat} (h : k < L.length) : (clr L k).set (k : Int).toNat (cl (rd L k)) = clr L (k + 1) := by
  have hl : ((L.take k).map cl).length = k := by simp; omega
  have e := set_next (n := L.length) ((L.take k).map cl) (cl (rd L k)) (by rw [hl]; exact h)
  rw [hl, List.length_append, hl] at e
  rw [Int.toNat_natCast]
  unfold clr
  rw [e, List.take_add_one, List.map_append, List.getElem?_eq_getElem h]
  have : rd L (k : Int) = L[k] := by unfold rd; rw [Int.toNat_natCast, List.getD_eq_getElem?_getD, List.getElem?_eq_getElem h]; rfl
  rw [this]; rfl

set_option maxHeartbeats 4000000 in
theorem order_sp {s : St} {H : Hp} {c cc : Nat} {L : List Int} (hX : OwnX X) (hM : Models ro s H) (hc : H c = some (.row 1 (L.map (.int .i64)))) (hn : L.length ≤ 16384) :
    Sp X Try.prog ro 14 [.slice (some ⟨c, 0, none⟩) L.length cc] s fun v H' => ∃ a, v = .slice (some ⟨a, 0, none⟩) L.length L.length ∧ H' a = some (.row 1 ((visM L).map (.int .i64))) ∧ ∀ ν o, H ν = some o → H' ν = some o ∧ ν ≠ a := by
  refine Sp.of_body (hX _ _ _ (by decide) (by decide) (by decide) (by decide)) Try.func14 rfl Try.ntmps14 (by simp) ?_
  refine WC.seq (WC.region ?_)
  refine asO ?_
  refine WO.nil ?_
  refine WC.seq (WC.region ?_)
  refine mvO ?_
  refine cO (SV.len rfl rfl ?_)
  refine cO (SV.makeSliceM (by assumption) rfl rfl (by refine ⟨?_, ?_, ?_, ?_, rfl, by decide⟩ <;> omega) (fun a1_2 s1_2 hf1_2 hne1_2 hn1_2 hM1_2 => ?_))
  refine asO ?_
  refine WO.nil ?_
  rw [rep_ints] at hM1_2
  refine WC.seq (WC.region ?_)
  refine mvO ?_
  refine cO (SV.len rfl rfl ?_)
  refine cO (SV.makeSliceM (by assumption) rfl rfl (by refine ⟨?_, ?_, ?_, ?_, rfl, by decide⟩ <;> omega) (fun a2_2 s2_2 hf2_2 hne2_2 hn2_2 hM2_2 => ?_))
  refine asO ?_
  refine WO.nil ?_
  rw [rep_ints] at hM2_2
  simp only [Int.toNat_natCast] at hM1_2 hM2_2
  have hac : c ≠ a1_2 := hne1_2 _ _ hc
  have hac2 : c ≠ a2_2 := hne2_2 _ _ (Hp.up_ne hac hc)
  have ha12 : a1_2 ≠ a2_2 := hne2_2 _ _ Hp.up_same
  refine WC.seq (WC.seq (WC.region ?_))
  refine mvO ?_
  refine cO (SV.len rfl rfl ?_)
  refine mvO ?_
  refine WO.nil ?_
  refine WC.block ?_
  refine WC.loop (D := Nat) (fun x => [(3, .slice (some ⟨a1_2, 0, none⟩) L.length L.length), (4, .slice (some ⟨a2_2, 0, none⟩) L.length L.length), (16, .slice (some ⟨c, 0, none⟩) L.length cc), (17, .int .i64 L.length), (18, .int .i64 x)])
    (fun x s1 => s.next ≤ s1.next ∧ Models ro s1 ((H.up a1_2 (.row 1 ((iot L.length x).map (.int .i64)))).up a2_2 (.row 1 ((clr L x).map (.int .i64)))) ∧ x ≤ L.length)
    (fun x => L.length - x) 0 ?_ ⟨by omega, by simpa [iot, clr, iota] using hM2_2, by omega⟩ ?_
  · exact ⟨rfl, rfl, rfl, rfl, rfl, trivial⟩
  rintro k g s1 ⟨hn1, hM1, hk⟩
  have hc1 : ((H.up a1_2 (.row 1 ((iot L.length k).map (.int .i64)))).up a2_2 (.row 1 ((clr L k).map (.int .i64)))) c = _ := Hp.up_ne hac2 (Hp.up_ne hac hc)
  have hr1 : ((H.up a1_2 (.row 1 ((iot L.length k).map (.int .i64)))).up a2_2 (.row 1 ((clr L k).map (.int .i64)))) a1_2 = _ := Hp.up_ne ha12 Hp.up_same
  have hli := iot_len hk
  have hlc := clr_len hk
  refine WC.seq (WC.region ?_)
  refine cO (SV.lss rfl rfl ?_)
  refine WO.nil ?_
  refine WC.seq ?_
  refine WC.condD rfl (fun hlt hltb => ?_) (fun hlt hltb => ?_)
  · refine WC.skip (WC.seq (WC.block (WC.seq (WC.region ?_))))
    refine mvO ?_
    refine cO (SV.indexAddr rfl rfl (by omega) ?_)
    refine cO (ldI ?_)
    refine asO ?_
    refine asO ?_
    refine WO.nil ?_
    refine WC.seq (WC.region ?_)
    refine mvO ?_
    refine mvO ?_
    refine mvO ?_
    refine cO (SV.indexAddr rfl rfl (by omega) ?_)
    refine WO.cons0 (SV.storeV (by assumption) rfl (by constructor) (by assumption) (by (simp only [List.length_map]; omega)) (fun s6_4 hn6_4 hM6_4 => ?_))
    refine WO.nil ?_
    rw [ints_set (by omega) (by omega), iot_set (by omega), Hp.up_back ha12] at hM6_4
    have hli2 := iot_len (n := L.length) (k := k + 1) (by omega)
    refine WC.region ?_
    refine mvO ?_
    refine mvO ?_
    refine mvO ?_
    refine cO (SV.max2 rfl rfl ?_)
    refine cO (SV.min2 rfl rfl ?_)
    refine cO (SV.indexAddr rfl rfl (by omega) ?_)
    refine WO.cons0 (SV.storeV (by assumption) rfl (by constructor) (by exact Hp.up_same) (by (simp only [List.length_map]; omega)) (fun s7_6 hn7_6 hM7_6 => ?_))
    refine WO.nil ?_
    rw [ints_set (by omega) (by omega), Hp.up_up] at hM7_6
    have hcs := clr_set (L := L) (k := k) (by omega)
    unfold cl at hcs
    rw [hcs] at hM7_6
    refine WC.region ?_
    refine cO (adI ?_)
    refine mvO ?_
    refine WO.nil ?_
    exact ⟨rfl, k + 1, ⟨rfl, rfl, rfl, rfl, rfl, trivial⟩, ⟨by omega, hM7_6, by omega⟩, by omega⟩
  · have hke : k = L.length := by omega
    subst hke
    have e1 : iot L.length L.length = iota L.length := by simp [iot]
    have e2 : clr L L.length = L.map cl := by simp [clr]
    rw [e1, e2] at hM1
    clear hr1 hc1 hli hlc e1 e2
    have hll : (L.map cl).length = L.length := by simp
    have hoo : (iota L.length).length = L.length := iota_length _
    have hV : downs (L.map cl) 126 (iota L.length) = visM L := rfl
    have hcl : ∀ b : Nat, (L.map cl).getD b 0 ≤ 126 ∧ 0 ≤ (L.map cl).getD b 0 := fun b => by
      rw [List.getD_eq_getElem?_getD, List.getElem?_map]
      cases L[b]? with
      | none => exact ⟨by decide, by decide⟩
      | some x => exact ⟨cl_hi x, cl_lo x⟩
    generalize L.map cl = l at hM1 hll hV hcl
    generalize iota L.length = out at hM1 hoo hV
    generalize hW : visM L = W at hV
    refine WC.exit (WC.seq (WC.seq ?_))
    refine WC.region ?_
    refine asO ?_
    refine WO.nil ?_
    refine WC.block ?_
    refine WC.loop (D := Nat × List Int) (fun x => [(3, .slice (some ⟨a1_2, 0, none⟩) L.length L.length), (4, .slice (some ⟨a2_2, 0, none⟩) L.length L.length), (7, .int .i64 x.1)])
      (fun x s1 => s.next ≤ s1.next ∧ Models ro s1 ((H.up a1_2 (.row 1 (x.2.map (.int .i64)))).up a2_2 (.row 1 (l.map (.int .i64)))) ∧ x.2.length = L.length ∧ x.1 ≤ 126 ∧ downs l x.1 x.2 = W)
      (fun x => x.1) (126, out) ?_ ⟨by omega, hM1, hoo, Nat.le_refl _, hV⟩ ?_
    · exact ⟨rfl, rfl, rfl, trivial⟩
    clear hM1 hoo hV
    rintro ⟨v, o1⟩ g2 s2 ⟨hn2, hM2, ho1, hv, hd⟩
    dsimp only at hn2 hM2 ho1 hv hd ⊢
    refine WC.seq (WC.seq (WC.region ?_))
    refine mvO ?_
    refine cO (SV.geq rfl rfl ?_)
    refine WO.nil ?_
    refine WC.condD rfl (fun hv1 hv1b => ?_) (fun hv1 hv1b => ?_)
    · obtain ⟨u, rfl⟩ : ∃ u, v = u + 1 := ⟨v - 1, by omega⟩
      simp only [downs] at hd
      refine WC.skip (WC.seq (WC.block (WC.seq (WC.region ?_))))
      refine asO ?_
      refine WO.nil ?_
      refine WC.block ?_
      refine WC.loop (D := Nat × List Int) (fun x => [(3, .slice (some ⟨a1_2, 0, none⟩) L.length L.length), (4, .slice (some ⟨a2_2, 0, none⟩) L.length L.length), (7, .int .i64 ((u + 1 : Nat) : Int)), (8, .int .i64 x.1)])
        (fun x s1 => s.next ≤ s1.next ∧ Models ro s1 ((H.up a1_2 (.row 1 (x.2.map (.int .i64)))).up a2_2 (.row 1 (l.map (.int .i64)))) ∧ x.2.length = L.length ∧ x.1 ≤ L.length + 1 ∧ downs l u (pass l ((u : Int) + 1) x.1 x.2) = W)
        (fun x => L.length + 1 - x.1) (0, o1) ?_ ⟨by omega, hM2, ho1, by dsimp only; omega, hd⟩ ?_
      · exact ⟨rfl, rfl, rfl, rfl, trivial⟩
      clear hM2 ho1 hd
      rintro ⟨a, o2⟩ g3 s3 ⟨hn3, hM3, ho2, ha, hd⟩
      dsimp only at hn3 hM3 ho2 ha hd ⊢
      have hr3 : ((H.up a1_2 (.row 1 (o2.map (.int .i64)))).up a2_2 (.row 1 (l.map (.int .i64)))) a1_2 = _ := Hp.up_ne ha12 Hp.up_same
      refine WC.seq (WC.seq (WC.region ?_))
      refine mvO ?_
      refine mvO ?_
      refine cO (SV.len rfl rfl ?_)
      refine cO (SV.lss rfl rfl ?_)
      refine WO.nil ?_
      refine WC.condD rfl (fun ha1 ha1b => ?_) (fun ha1 ha1b => ?_)
      · rw [pass, if_pos (by omega)] at hd
        have hge := endOf_ge l ((u : Int) + 1) a
        have hle := endOf_le l ((u : Int) + 1) a (by omega)
        refine WC.skip (WC.seq (WC.block (WC.seq (WC.region ?_))))
        refine mvO ?_
        refine asO ?_
        refine WO.nil ?_
        refine WC.seq (WC.block ?_)
        refine WC.loop (D := Nat) (fun x => [(3, .slice (some ⟨a1_2, 0, none⟩) L.length L.length), (4, .slice (some ⟨a2_2, 0, none⟩) L.length L.length), (7, .int .i64 ((u + 1 : Nat) : Int)), (8, .int .i64 a), (9, .int .i64 x)])
          (fun x s1 => s.next ≤ s1.next ∧ Models ro s1 ((H.up a1_2 (.row 1 (o2.map (.int .i64)))).up a2_2 (.row 1 (l.map (.int .i64)))) ∧ a ≤ x ∧ x ≤ L.length ∧ endOf l ((u : Int) + 1) x = endOf l ((u : Int) + 1) a)
          (fun x => L.length - x) a ?_ ⟨by omega, hM3, by omega, by omega, rfl⟩ ?_
        · exact ⟨rfl, rfl, rfl, rfl, rfl, trivial⟩
        clear hM3
        rintro b g4 s4 ⟨hn4, hM4, hab, hb, hend⟩
        have hr4 : ((H.up a1_2 (.row 1 (o2.map (.int .i64)))).up a2_2 (.row 1 (l.map (.int .i64)))) a1_2 = _ := Hp.up_ne ha12 Hp.up_same
        by_cases hb1 : b < L.length
        · have hd1 : decide ((b : Int) < L.length) = true := decide_eq_true (by omega)
          by_cases hb2 : (u : Int) + 1 ≤ l.getD b 0
          · have hd2 : decide (((u + 1 : Nat) : Int) ≤ rd l b) = true := decide_eq_true (by rw [rd_getD rfl]; omega)
            refine WC.seq (WC.seq (WC.region ?_))
            refine mvO ?_
            refine mvO ?_
            refine cO (SV.len rfl rfl ?_)
            refine cO (SV.lss rfl rfl ?_)
            refine mvO ?_
            refine gyO (SV.moveV (by constructor) ?_)
            all_goals refine gyO (SV.moveV (by constructor) ?_)
            all_goals refine gyO (SV.indexAddr rfl rfl (by omega) ?_)
            all_goals refine WO.guardY rfl rfl rfl (by assumption) (SV.loadM (by assumption) rfl (by exact Hp.up_same) (by exact ints_get0 (by omega) (by omega)) ?_) (by decide)
            all_goals refine gyO (SV.moveV (by constructor) ?_)
            all_goals refine gyO (SV.geq rfl rfl ?_)
            all_goals refine cO (pT ?_)
            all_goals refine WO.nil ?_
            refine WC.condT rfl (by assumption) (WC.skip (WC.block ?_))
            refine WC.region ?_
            refine mvO ?_
            refine cO (adI ?_)
            refine asO ?_
            refine WO.nil ?_
            have e : endOf l ((u : Int) + 1) b = endOf l ((u : Int) + 1) (b + 1) := by rw [endOf, if_pos (by omega), if_pos hb2]
            exact ⟨rfl, b + 1, ⟨rfl, rfl, rfl, rfl, rfl, trivial⟩, ⟨by omega, hM4, by omega, by omega, by rw [← e, hend]⟩, by omega⟩
          · have hd2 : decide (((u + 1 : Nat) : Int) ≤ rd l b) = false := decide_eq_false (by rw [rd_getD rfl]; omega)
            refine WC.seq (WC.seq (WC.region ?_))
            refine mvO ?_
            refine mvO ?_
            refine cO (SV.len rfl rfl ?_)
            refine cO (SV.lss rfl rfl ?_)
            refine mvO ?_
            refine gyO (SV.moveV (by constructor) ?_)
            all_goals refine gyO (SV.moveV (by constructor) ?_)
            all_goals refine gyO (SV.indexAddr rfl rfl (by omega) ?_)
            all_goals refine WO.guardY rfl rfl rfl (by assumption) (SV.loadM (by assumption) rfl (by exact Hp.up_same) (by exact ints_get0 (by omega) (by omega)) ?_) (by decide)
            all_goals refine gyO (SV.moveV (by constructor) ?_)
            all_goals refine gyO (SV.geq rfl rfl ?_)
            all_goals refine cO (pT ?_)
            all_goals refine WO.nil ?_
            refine WC.condF rfl (by assumption) (WC.exit (WC.seq ?_))
            have e : endOf l ((u : Int) + 1) b = b := by rw [endOf, if_pos (by omega), if_neg hb2]
            rw [hend] at e
            rw [e] at hd
            refine WC.region ?_
            refine mvO ?_
            refine mvO ?_
            refine cO (SV.gtr rfl rfl ?_)
            refine WO.nil ?_
            refine WC.condD rfl (fun hgt hgtb => ?_) (fun hgt hgtb => ?_)
            · rw [if_pos (by omega)] at hd
              refine WC.seq (WC.region ?_)
              refine mvO ?_
              refine mvO ?_
              refine mvO ?_
              refine cO ?_
              refine SV.slicePart hM4 rfl hr4 rfl rfl ⟨by omega, by omega, by omega⟩ ?_
              refine cO ?_
              refine SV.callM rfl rfl (reverse_sp (o := (a : Int).toNat * 1) (n := (b : Int).toNat - (a : Int).toNat) (L := o2) hX hM4 hr4 (by omega) (by omega)) ?_
              rintro v s5 H5 hn5 hM5 ⟨rfl, rfl⟩
              rw [show (a : Int).toNat * 1 + ((b : Int).toNat - (a : Int).toNat) = b by omega, show (a : Int).toNat * 1 = a by omega, Hp.up_back ha12] at hM5
              have hlr := rev_length o2 a b (by omega) (by omega)
              refine WO.nil ?_
              refine WC.region ?_
              refine mvO ?_
              refine asO ?_
              refine WO.nil ?_
              refine WC.region ?_
              refine mvO ?_
              refine cO (adI ?_)
              refine asO ?_
              refine WO.nil ?_
              refine ⟨rfl, (b + 1, rev o2 a b), ⟨rfl, rfl, rfl, rfl, trivial⟩, ⟨by omega, hM5, by rw [hlr]; exact ho2, by dsimp only; omega, hd⟩, by dsimp only; omega⟩
            · rw [if_neg (by omega)] at hd
              have hba : b = a := by omega
              subst hba
              refine WC.skip (WC.region ?_)
              refine mvO ?_
              refine cO (adI ?_)
              refine asO ?_
              refine WO.nil ?_
              exact ⟨rfl, (b + 1, o2), ⟨rfl, rfl, rfl, rfl, trivial⟩, ⟨by omega, hM4, ho2, by dsimp only; omega, hd⟩, by dsimp only; omega⟩
        · have hd1 : decide ((b : Int) < L.length) = false := decide_eq_false (by omega)
          refine WC.seq (WC.seq (WC.region ?_))
          refine mvO ?_
          refine mvO ?_
          refine cO (SV.len rfl rfl ?_)
          refine cO (SV.lss rfl rfl ?_)
          refine mvO ?_
          refine gnO ?_
          all_goals refine gnO ?_
          all_goals refine gnO ?_
          all_goals refine gnO ?_
          all_goals refine gnO ?_
          all_goals refine gnO ?_
          all_goals refine cO (pF ?_)
          all_goals refine WO.nil ?_
          refine WC.condF rfl (by rfl) (WC.exit (WC.seq ?_))
          have e : endOf l ((u : Int) + 1) b = b := by rw [endOf, if_neg (by omega)]
          rw [hend] at e
          rw [e] at hd
          refine WC.region ?_
          refine mvO ?_
          refine mvO ?_
          refine cO (SV.gtr rfl rfl ?_)
          refine WO.nil ?_
          refine WC.condD rfl (fun hgt hgtb => ?_) (fun hgt hgtb => ?_)
          · rw [if_pos (by omega)] at hd
            refine WC.seq (WC.region ?_)
            refine mvO ?_
            refine mvO ?_
            refine mvO ?_
            refine cO ?_
            refine SV.slicePart hM4 rfl hr4 rfl rfl ⟨by omega, by omega, by omega⟩ ?_
            refine cO ?_
            refine SV.callM rfl rfl (reverse_sp (o := (a : Int).toNat * 1) (n := (b : Int).toNat - (a : Int).toNat) (L := o2) hX hM4 hr4 (by omega) (by omega)) ?_
            rintro v s5 H5 hn5 hM5 ⟨rfl, rfl⟩
            rw [show (a : Int).toNat * 1 + ((b : Int).toNat - (a : Int).toNat) = b by omega, show (a : Int).toNat * 1 = a by omega, Hp.up_back ha12] at hM5
            have hlr := rev_length o2 a b (by omega) (by omega)
            refine WO.nil ?_
            refine WC.region ?_
            refine mvO ?_
            refine asO ?_
            refine WO.nil ?_
            refine WC.region ?_
            refine mvO ?_
            refine cO (adI ?_)
            refine asO ?_
            refine WO.nil ?_
            refine ⟨rfl, (b + 1, rev o2 a b), ⟨rfl, rfl, rfl, rfl, trivial⟩, ⟨by omega, hM5, by rw [hlr]; exact ho2, by dsimp only; omega, hd⟩, by dsimp only; omega⟩
          · rw [if_neg (by omega)] at hd
            have hba : b = a := by omega
            subst hba
            refine WC.skip (WC.region ?_)
            refine mvO ?_
            refine cO (adI ?_)
            refine asO ?_
            refine WO.nil ?_
            exact ⟨rfl, (b + 1, o2), ⟨rfl, rfl, rfl, rfl, trivial⟩, ⟨by omega, hM4, ho2, by dsimp only; omega, hd⟩, by dsimp only; omega⟩
      · refine WC.exit ?_
        rw [pass, if_neg (by omega)] at hd
        refine WC.region ?_
        refine mvO ?_
        refine cO (sbI ?_)
        refine asO ?_
        refine WO.nil ?_
        refine ⟨rfl, (u, o2), ⟨rfl, rfl, ?_, trivial⟩, ⟨by omega, hM3, ho2, by dsimp only; omega, hd⟩, by dsimp only; omega⟩
        show some (Value.int .i64 (((u + 1 : Nat) : Int) - 1)) = some (Value.int .i64 (u : Int)); congr 2; omega
    · obtain rfl : v = 0 := by omega
      simp only [downs] at hd
      subst hd
      refine WC.exit (WC.seq ?_)
      refine WC.region ?_
      refine mvO ?_
      refine asO ?_
      refine WO.nil ?_
      refine WC.ret ?_
      exact fin_one (e := .ret) (v := .slice _ _ _) rfl trivial rfl hn2 hM2 ⟨a1_2, rfl, Hp.up_ne ha12 Hp.up_same, fun ν o e => ⟨Hp.up_ne (hne2_2 _ _ (Hp.up_ne (hne1_2 _ _ e) e)) (Hp.up_ne (hne1_2 _ _ e) e), hne1_2 _ _ e⟩⟩
end Go.Proofs.Ythkklpegjcnjoaa

namespace Go.Proofs.Ythkklpegjcnjoaa
open Go.Ab
variable {X : CallE} {ro : Nat}
set_option maxRecDepth 10000
set_option linter.unusedVariables false
set_option linter.unusedSimpArgs false

theorem SlO.ofRow {H : Hp} {ν n : Nat} {sz : Nat} {ws : List Value} (h : H ν = some (.row sz ws)) (hl : ws.length = n * sz) : SlO H (.slice (some ⟨ν, 0, none⟩) n n) sz n ws :=
  .inr ⟨ν, n, ws, rfl, h, hl, Nat.le_refl _, by rw [← hl, List.take_length]⟩
theorem slo_int {H : Hp} {v : Value} {n : Nat} {L : List Int} (h : SlO H v 1 n (L.map (.int .i64))) (hn : L.length = n) {i : Int} (h0 : 0 ≤ i) (h1 : i < n) :
    ∃ ν c ws, v = .slice (some ⟨ν, 0, none⟩) n c ∧ H ν = some (.row 1 ws) ∧ ws[0 + i.toNat * 1]? = some (.int .i64 (rd L i)) := by
  rcases h with ⟨_, rfl, _⟩ | ⟨ν, c, ws, rfl, h2, h3, h4, h5⟩
  · omega
  · refine ⟨ν, c, ws, rfl, h2, ?_⟩
    have hg := ints_get0 (L := L) h0 (by omega)
    rw [h5, List.getElem?_take] at hg
    split at hg
    · exact hg
    · cases hg

theorem same_sp {s : St} {H : Hp} {n : Nat} {L : List Int} {v w : Value} (hX : OwnX X) (hM : Models ro s H) (hv : SlO H v 1 n (L.map (.int .i64))) (hw : SlO H w 1 n (L.map (.int .i64))) (hL : L.length = n) (hn : n ≤ 17592186044416) :
    Sp X Try.prog ro 15 [v, w] s fun u H' => u = .bool true ∧ H' = H := by
  refine Sp.of_body (hX _ _ _ (by decide) (by decide) (by decide) (by decide)) Try.func15 rfl Try.ntmps15 (by simp) ?_
  refine WC.seq (WC.region ?_)
  refine asO ?_
  refine WO.nil ?_
  refine WC.seq (WC.seq (WC.region ?_))
  refine cO (SV.move ?_)
  refine cO (SV.lenO rfl rfl (by assumption) ?_)
  refine cO (SV.move ?_)
  refine cO (SV.lenO rfl rfl (by assumption) ?_)
  refine cO (SV.neqI rfl rfl ?_)
  refine WO.nil ?_
  have hnn : decide ((n : Int) ≠ (n : Int)) = false := by simp
  refine WC.condF rfl (by assumption) (WC.skip (WC.seq (WC.seq ?_)))
  refine WC.region ?_
  refine cO (SV.move ?_)
  refine cO (SV.lenO rfl rfl (by assumption) ?_)
  refine mvO ?_
  refine WO.nil ?_
  refine WC.block ?_
  refine WC.loop (D := Nat) (fun x => [(0, v), (1, w), (11, v), (12, .int .i64 n), (13, .int .i64 x)])
    (fun x s1 => s.next ≤ s1.next ∧ Models ro s1 H ∧ x ≤ n) (fun x => n - x) 0 ?_ ⟨by omega, hM, by omega⟩ ?_
  · exact ⟨rfl, rfl, rfl, rfl, rfl, trivial⟩
  rintro k g s1 ⟨hn1, hM1, hk⟩
  refine WC.seq (WC.region ?_)
  refine cO (SV.lss rfl rfl ?_)
  refine WO.nil ?_
  refine WC.seq ?_
  refine WC.condD rfl (fun hlt hltb => ?_) (fun hlt hltb => ?_)
  · obtain ⟨ν, c, ws, rfl, hν, hg⟩ := slo_int hv hL (i := k) (by omega) (by omega)
    obtain ⟨ν2, c2, ws2, rfl, hν2, hg2⟩ := slo_int hw hL (i := k) (by omega) (by omega)
    have hne : decide (rd L k ≠ rd L k) = false := by simp
    refine WC.skip (WC.seq (WC.block (WC.seq (WC.region ?_))))
    refine mvO ?_
    refine asO ?_
    refine WO.nil ?_
    refine WC.seq ?_
    refine WC.dr [0, 1, 2, 3, 4, 5, 6, 7, 8] ?_
    refine mvD ?_
    refine mvD ?_
    refine cD (SV.indexAddr rfl rfl (by omega) ?_)
    refine cD (SV.loadM (by assumption) rfl (by assumption) (by assumption) ?_)
    refine mvD ?_
    refine mvD ?_
    refine cD (SV.indexAddr rfl rfl (by omega) ?_)
    refine cD (SV.loadM (by assumption) rfl (by assumption) (by assumption) ?_)
    refine cD (SV.neqI rfl rfl ?_)
    refine WD.nil ?_
    refine WC.condF rfl (by assumption) (WC.skip ?_)
    refine WC.region ?_
    refine cO (adI ?_)
    refine mvO ?_
    refine WO.nil ?_
    exact ⟨rfl, k + 1, ⟨rfl, rfl, rfl, rfl, rfl, trivial⟩, ⟨by omega, hM1, by omega⟩, by omega⟩
  · refine WC.exit (WC.seq ?_)
    refine WC.region ?_
    refine asO ?_
    refine WO.nil ?_
    refine WC.ret ?_
    exact fin_one (e := .ret) rfl trivial rfl hn1 hM1 ⟨rfl, rfl⟩
end Go.Proofs.Ythkklpegjcnjoaa

namespace Go.Proofs.Ythkklpegjcnjoaa
open Go.Ab
variable {X : CallE} {ro : Nat}
set_option maxRecDepth 10000
set_option linter.unusedVariables false
set_option linter.unusedSimpArgs false

def lvT (R : List RunE) (k : Nat) : List Int := (R.take k).map RunE.l ++ List.replicate (R.length - k) 0
theorem lvT_len {R : List RunE} {k : Nat} (h : k ≤ R.length) : (lvT R k).length = R.length := by unfold lvT; simp; omega
theorem lvT_set {R : List RunE} {k : Nat} (h : k < R.length) : (lvT R k).set (k : Int).toNat R[k].l = lvT R (k + 1) := by
  have hl : ((R.take k).map RunE.l).length = k := by simp; omega
  have e := set_next (n := R.length) ((R.take k).map RunE.l) R[k].l (by rw [hl]; exact h)
  rw [hl, List.length_append, hl] at e
  rw [Int.toNat_natCast]
  unfold lvT
  rw [e, List.take_add_one, List.map_append, List.getElem?_eq_getElem h]
  rfl

theorem models_drop {s : St} {H : Hp} {a b : Nat} {x y x' : Go.Ab.Obj} (hb : ∀ ν o, (H.up a x) ν = some o → ν ≠ b) (h : Models ro s (((H.up a x).up b y).up a x')) : Models ro s (H.up a x') := h.sub fun ν o e => by
  by_cases hν : ν = a
  · subst hν; rw [Hp.up_same] at e ⊢; exact e
  · have e2 : H ν = some o := by unfold Hp.up at e; rwa [if_neg hν] at e
    exact Hp.up_ne hν (Hp.up_ne (hb ν o (Hp.up_ne hν e2)) (Hp.up_ne hν e2))

set_option maxHeartbeats 4000000 in
theorem visual_sp {s : St} {H : Hp} {w : Value} {R : List RunE} {n : Nat} (hX : OwnX X) (hM : Models ro s H) (hw : SlO H w 4 n (R.flatMap enc4)) (hR : R.length = n) (hn : n ≤ 16384) :
    Sp X Try.prog ro 31 [w] s fun v H' => ∃ a, v = .slice (some ⟨a, 0, none⟩) n n ∧ H' a = some (.row 1 ((visM (R.map RunE.l)).map (.int .i64))) ∧ ∀ ν o, H ν = some o → H' ν = some o ∧ ν ≠ a := by
  refine Sp.of_body (hX _ _ _ (by decide) (by decide) (by decide) (by decide)) Try.func31 rfl Try.ntmps31 (by simp) ?_
  refine WC.seq (WC.region ?_)
  refine asO ?_
  refine WO.nil ?_
  refine WC.seq (WC.region ?_)
  refine cO (SV.move ?_)
  refine cO (SV.lenO rfl rfl (by assumption) ?_)
  refine cO (SV.makeSliceM (by assumption) rfl rfl (by refine ⟨?_, ?_, ?_, ?_, rfl, by decide⟩ <;> omega) (fun a1_2 s1_2 hf1_2 hne1_2 hn1_2 hM1_2 => ?_))
  refine asO ?_
  refine WO.nil ?_
  rw [rep_ints] at hM1_2
  simp only [Int.toNat_natCast] at hM1_2
  refine WC.seq (WC.seq (WC.region ?_))
  refine cO (SV.move ?_)
  refine cO (SV.lenO rfl rfl (by assumption) ?_)
  refine mvO ?_
  refine WO.nil ?_
  refine WC.block ?_
  refine WC.loop (D := Nat) (fun x => [(3, .slice (some ⟨a1_2, 0, none⟩) n n), (9, w), (10, .int .i64 n), (11, .int .i64 x)])
    (fun x s1 => s.next ≤ s1.next ∧ Models ro s1 (H.up a1_2 (.row 1 ((lvT R x).map (.int .i64)))) ∧ x ≤ n)
    (fun x => n - x) 0 ?_ ⟨by omega, by simpa [lvT, hR] using hM1_2, by omega⟩ ?_
  · exact ⟨rfl, rfl, rfl, rfl, trivial⟩
  rintro k g s1 ⟨hn1, hM1, hk⟩
  have hlv := lvT_len (R := R) (k := k) (by omega)
  refine WC.seq (WC.region ?_)
  refine cO (SV.lss rfl rfl ?_)
  refine WO.nil ?_
  refine WC.seq ?_
  refine WC.condD rfl (fun hlt hltb => ?_) (fun hlt hltb => ?_)
  · have hkR : k < R.length := by omega
    obtain ⟨ν, cv, ws, rfl, hν, hwl, hnc, htk, hat⟩ := hw.at enc4_len hR (by omega)
    have hwr := hat _ hkR
    have hset := lvT_set hkR
    generalize hr : R[k] = r at hwr hset
    have hν1 := Hp.up_ne (o := .row 1 ((lvT R k).map (.int .i64))) (hne1_2 _ _ hν) hν
    refine WC.skip (WC.seq (WC.block (WC.seq (WC.region ?_))))
    refine mvO ?_
    refine cO (SV.indexAddr rfl rfl (by omega) ?_)
    refine cO ?_
    refine SV.loadMA (l := enc4 r) (by assumption) rfl hν1 rfl (fun j u hu => by have := hwr j u hu; rw [Nat.zero_add, Int.toNat_natCast]; exact this) ?_
    refine cO (SV.allocM (by assumption) (fun a4_3 s4_3 hf4_3 hne4_3 hn4_3 hM4_3 => ?_))
    refine asO ?_
    refine WO.cons0 (SV.storeMA (by assumption) rfl rfl rfl rfl (by exact Hp.up_same) (by exact Nat.le_refl _) (fun s4_5 hn4_5 hM4_5 => ?_))
    refine WO.nil ?_
    have hax : a4_3 ≠ a1_2 := (hne4_3 _ _ Hp.up_same).symm
    have hr1 : (((H.up a1_2 (.row 1 ((lvT R k).map (.int .i64)))).up a4_3 (.row 0 [.int .i64 0, .int .i64 0, .int .i64 0, .int .i64 0]))) a1_2 = _ := Hp.up_ne hax.symm Hp.up_same
    refine WC.region ?_
    refine mvO ?_
    refine mvO ?_
    refine cO (SV.fieldAddr rfl ?_)
    refine cO (SV.loadM (by assumption) rfl (by exact Hp.up_same) (by rfl) ?_)
    refine cO (SV.indexAddr rfl rfl (by omega) ?_)
    refine WO.cons0 (SV.storeV (by assumption) rfl (by constructor) (by exact Hp.up_ne (Ne.symm (by assumption)) (by assumption)) (by (simp only [List.length_map]; omega)) (fun s5_5 hn5_5 hM5_5 => ?_))
    refine WO.nil ?_
    rw [ints_set (by omega) (by omega), Hp.up_up] at hM5_5
    have hM6 := models_drop hne4_3 hM5_5
    rw [hset] at hM6
    refine WC.region ?_
    refine cO (adI ?_)
    refine mvO ?_
    refine WO.nil ?_
    exact ⟨rfl, k + 1, ⟨rfl, rfl, rfl, rfl, trivial⟩, ⟨by omega, hM6, by omega⟩, by omega⟩
  · have hke : k = n := by omega
    have e : lvT R k = R.map RunE.l := by unfold lvT; rw [hke, ← hR]; simp
    rw [e] at hM1
    have hml : (R.map RunE.l).length = n := by rw [List.length_map]; exact hR
    refine WC.exit (WC.seq ?_)
    refine WC.region ?_
    refine mvO ?_
    refine cO ?_
    have ho := order_sp (L := R.map RunE.l) (cc := n) hX hM1 Hp.up_same (by rw [hml]; exact hn)
    rw [hml] at ho
    refine SV.callM rfl rfl ho ?_
    rintro v s2 H2 hn2 hM2 ⟨a, rfl, ha, hkp⟩
    refine asO ?_
    refine WO.nil ?_
    refine WC.ret ?_
    exact fin_one (e := .ret) (v := .slice _ _ _) rfl trivial rfl (by omega) hM2 ⟨a, rfl, ha, fun ν o e => hkp ν o (Hp.up_ne (hne1_2 _ _ e) e)⟩
end Go.Proofs.Ythkklpegjcnjoaa

namespace Go.Proofs.Ythkklpegjcnjoaa
open Go.Ab
variable {X : CallE} {ro : Nat}
set_option maxRecDepth 10000
set_option linter.unusedVariables false
set_option linter.unusedSimpArgs false

/-- One number appended to a row that is full: a new row. -/
theorem app_one {H H8 : Hp} {a b k : Nat} {v8 : Value} {O : List Int} {x : Int} (ha : H a = some (.row 1 (O.map (.int .i64)))) (hO : O.length = k) (hb : ∀ ν o, H ν = some o → ν ≠ b)
    (hk : KeptBut (H.up b (.row 1 [.int .i64 x])) H8 (.slice (some ⟨a, 0, none⟩) k k)) (hnew : NewOr (H.up b (.row 1 [.int .i64 x])) (.slice (some ⟨a, 0, none⟩) k k) v8)
    (hex : AppEx (H.up b (.row 1 [.int .i64 x])) H8 (.slice (some ⟨a, 0, none⟩) k k) v8 1 k (k + 1) (O.map (.int .i64) ++ [.int .i64 x])) :
    ∃ a', v8 = .slice (some ⟨a', 0, none⟩) (k + 1) (k + 1) ∧ H8 a' = some (.row 1 ((O ++ [x]).map (.int .i64))) ∧ ∀ ν o, H ν = some o → ν ≠ a → H8 ν = some o ∧ ν ≠ a' := by
  obtain ⟨a', rfl, h1⟩ := hex.2.1 _ _ _ rfl (by omega)
  refine ⟨a', rfl, by rw [List.map_append]; exact h1, fun ν o e hne => ⟨hk ν o (Hp.up_ne (hb ν o e) e) (fun h => hne (by cases h; rfl)), fun e2 => ?_⟩⟩
  subst e2
  rcases hnew ν rfl with h | h
  · cases h; exact hne rfl
  · rw [Hp.up_ne (hb ν o e) e] at h; cases h

def hiM (L : List Int) : Int := L.foldl (fun t x => if cl x > t then cl x else t) 0
theorem hiM_snoc (L : List Int) (x : Int) : hiM (L ++ [x]) = if cl x > hiM L then cl x else hiM L := by unfold hiM; rw [List.foldl_append]; rfl
theorem hiM_ok : ∀ (n : Nat) (L : List Int), L.length = n → 0 ≤ hiM L ∧ hiM L ≤ 126 ∧ ∀ x ∈ L, cl x ≤ hiM L := by
  intro n
  induction n with
  | zero => intro L h; obtain rfl := List.length_eq_zero_iff.mp h; exact ⟨Int.le_refl _, by decide, fun x h => by cases h⟩
  | succ n ih =>
    intro L h
    have hne : L ≠ [] := fun e => by rw [e] at h; cases h
    obtain ⟨M, x, rfl⟩ : ∃ M x, L = M ++ [x] := ⟨L.dropLast, L.getLast hne, (List.dropLast_concat_getLast hne).symm⟩
    obtain ⟨h1, h2, h3⟩ := ih M (by simpa using h)
    have h4 := cl_lo x
    have h5 := cl_hi x
    rw [hiM_snoc]
    refine ⟨by split <;> omega, by split <;> omega, fun y hy => ?_⟩
    rcases List.mem_append.mp hy with hy | hy
    · have := h3 y hy; split <;> omega
    · rw [List.mem_singleton.mp hy]; split <;> omega

set_option maxHeartbeats 4000000 in
theorem order13_sp {s : St} {H : Hp} {w : Value} {L : List Int} {n : Nat} (hX : OwnX X) (hM : Models ro s H) (hw : SlO H w 1 n (L.map (.int .i64))) (hL : L.length = n) (hn : n ≤ 16384) :
    Sp X Try.prog ro 16 [w] s fun v H' => ∃ a, v = .slice (some ⟨a, 0, none⟩) n n ∧ H' a = some (.row 1 ((visM L).map (.int .i64))) ∧ ∀ ν o, H ν = some o → H' ν = some o ∧ ν ≠ a := by
  refine Sp.of_body (hX _ _ _ (by decide) (by decide) (by decide) (by decide)) Try.func16 rfl Try.ntmps16 (by simp) ?_
  refine WC.seq (WC.region ?_)
  refine asO ?_
  refine WO.nil ?_
  refine WC.seq (WC.region ?_)
  refine cO (SV.buildSliceM (by assumption) rfl rfl (fun a1_0 s1_0 hf1_0 hne1_0 hn1_0 hM1_0 => ?_))
  refine asO ?_
  refine WO.nil ?_
  refine WC.seq (WC.region ?_)
  refine cO (SV.buildSliceM (by assumption) rfl rfl (fun a2_0 s2_0 hf2_0 hne2_0 hn2_0 hM2_0 => ?_))
  refine asO ?_
  refine WO.nil ?_
  have ha12 : a1_0 ≠ a2_0 := hne2_0 _ _ Hp.up_same
  refine WC.seq (WC.region ?_)
  refine asO ?_
  refine WO.nil ?_
  refine WC.seq (WC.seq (WC.region ?_))
  refine cO (SV.move ?_)
  refine cO (SV.lenO rfl rfl (by assumption) ?_)
  refine mvO ?_
  refine WO.nil ?_
  refine WC.block ?_
  refine WC.loop (D := Nat × Nat × Nat) (fun x => [(3, .slice (some ⟨x.2.1, 0, none⟩) x.1 x.1), (4, .slice (some ⟨x.2.2, 0, none⟩) x.1 x.1), (5, .int .i64 (hiM (L.take x.1))), (16, w), (17, .int .i64 n), (18, .int .i64 x.1)])
    (fun x s1 => s.next ≤ s1.next ∧ x.1 ≤ n ∧ ∃ H1, Models ro s1 H1 ∧ H1 x.2.1 = some (.row 1 (((L.take x.1).map cl).map (.int .i64))) ∧ H1 x.2.2 = some (.row 1 ((iota x.1).map (.int .i64))) ∧ x.2.1 ≠ x.2.2 ∧ ∀ ν o, H ν = some o → H1 ν = some o ∧ ν ≠ x.2.1 ∧ ν ≠ x.2.2)
    (fun x => n - x.1) (0, a1_0, a2_0) ?_ ⟨by omega, by dsimp only; omega, _, hM2_0, Hp.up_ne ha12 Hp.up_same, Hp.up_same, ha12, fun ν o e => ⟨Hp.up_ne (hne2_0 _ _ (Hp.up_ne (hne1_0 _ _ e) e)) (Hp.up_ne (hne1_0 _ _ e) e), hne1_0 _ _ e, hne2_0 _ _ (Hp.up_ne (hne1_0 _ _ e) e)⟩⟩ ?_
  · exact ⟨rfl, rfl, rfl, rfl, rfl, rfl, trivial⟩
  rintro ⟨k, a3, a4⟩ g s1 ⟨hn1, hk, H1, hM1, hl1, hi1, h34, hkp⟩
  dsimp only at hn1 hk hM1 hl1 hi1 h34 hkp ⊢
  refine WC.seq (WC.region ?_)
  refine cO (SV.lss rfl rfl ?_)
  refine WO.nil ?_
  refine WC.seq ?_
  refine WC.condD rfl (fun hlt hltb => ?_) (fun hlt hltb => ?_)
  · obtain ⟨ν, c, ws, rfl, hν, hg⟩ := slo_int hw hL (i := k) (by omega) (by omega)
    have hν1 := (hkp _ _ hν).1
    have hlk : ((L.take k).map cl).length = k := by simp; omega
    have htk : L.take (k + 1) = L.take k ++ [rd L k] := by
      rw [List.take_add_one, List.getElem?_eq_getElem (by omega)]
      unfold rd
      rw [Int.toNat_natCast, List.getD_eq_getElem?_getD, List.getElem?_eq_getElem (by omega)]; rfl
    generalize hx : rd L k = x at hg htk
    generalize hT : hiM (L.take k) = T
    refine WC.skip (WC.seq (WC.block (WC.seq (WC.region ?_))))
    refine mvO ?_
    refine cO (SV.indexAddr rfl rfl (by omega) ?_)
    refine cO (SV.loadM (by assumption) rfl (by assumption) (by assumption) ?_)
    refine asO ?_
    refine asO ?_
    refine WO.nil ?_
    refine WC.seq (WC.seq (WC.region ?_))
    refine mvO ?_
    refine cO (SV.lss rfl rfl ?_)
    refine WO.nil ?_
    refine WC.condD rfl (fun hx0 hx0b => ?_) (fun hx0 hx0b => ?_)
    · have hcx : cl x = 0 := by unfold cl; rw [if_pos hx0]; rfl
      refine WC.region ?_
      refine asO ?_
      refine WO.nil ?_
      refine WC.seq (WC.seq (WC.region ?_))
      refine mvO ?_
      refine cO (SV.gtr rfl rfl ?_)
      refine WO.nil ?_
      refine WC.condF rfl (by rfl) (WC.skip (WC.seq (WC.seq ?_)))
      refine WC.region ?_
      refine mvO ?_
      refine mvO ?_
      refine cO (SV.gtr rfl rfl ?_)
      refine WO.nil ?_
      refine WC.condD rfl (fun hgt hgtb => ?_) (fun hgt hgtb => ?_)
      · skip
        refine WC.region ?_
        refine mvO ?_
        refine asO ?_
        refine WO.nil ?_
        refine WC.seq (WC.region ?_)
        refine mvO ?_
        refine mvO ?_
        refine cO (SV.buildSliceM (by assumption) rfl rfl (fun a13_2 s13_2 hf13_2 hne13_2 hn13_2 hM13_2 => ?_))
        refine cO ?_
        have hM13 : Models ro s13_2 (H1.up a13_2 (.row 1 [.int .i64 0])) := hM13_2
        refine SV.appendM (t := 23) (u := 23) (e := 3) (e' := 3) (sz := 1) (sz' := 1) (bytes := 8) (z := [.int .i64 0]) (n := k) (m := 1) (vs := ((L.take k).map cl).map (.int .i64)) (xs := [.int .i64 0]) rfl hM13 rfl rfl (SlO.ofRow (Hp.up_ne (hne13_2 _ _ hl1) hl1) (by rw [List.length_map, hlk, Nat.mul_one]))
          (Src.row Hp.up_same rfl rfl (fun j v h => by rw [Nat.zero_add]; exact h)) rfl (by omega) (fun v8 s8 H8 hn8 hM8 hv8 hk8 hnew8 hex8 => ?_)
        obtain ⟨b3, rfl, hb3, hkp3⟩ := app_one hl1 hlk hne13_2 hk8 hnew8 hex8
        refine asO ?_
        refine WO.nil ?_
        have hi2 : H8 a4 = _ := (hkp3 _ _ hi1 (Ne.symm h34)).1
        refine WC.region ?_
        refine mvO ?_
        refine mvO ?_
        refine cO (SV.buildSliceM (by assumption) rfl rfl (fun a14_2 s14_2 hf14_2 hne14_2 hn14_2 hM14_2 => ?_))
        refine cO ?_
        have hM14 : Models ro s14_2 (H8.up a14_2 (.row 1 [.int .i64 k])) := hM14_2
        refine SV.appendM (t := 23) (u := 23) (e := 3) (e' := 3) (sz := 1) (sz' := 1) (bytes := 8) (z := [.int .i64 0]) (n := k) (m := 1) (vs := (iota k).map (.int .i64)) (xs := [.int .i64 k]) rfl hM14 rfl rfl (SlO.ofRow (Hp.up_ne (hne14_2 _ _ hi2) hi2) (by rw [List.length_map, iota_length, Nat.mul_one]))
          (Src.row Hp.up_same rfl rfl (fun j v h => by rw [Nat.zero_add]; exact h)) rfl (by omega) (fun v9 s9 H9 hn9 hM9 hv9 hk9 hnew9 hex9 => ?_)
        obtain ⟨b4, rfl, hb4, hkp4⟩ := app_one hi2 (iota_length k) hne14_2 hk9 hnew9 hex9
        refine asO ?_
        refine WO.nil ?_
        have h43 : b3 ≠ a4 := fun e => (hkp3 _ _ hi1 (Ne.symm h34)).2 e.symm
        refine WC.region ?_
        refine cO (adI ?_)
        refine mvO ?_
        refine WO.nil ?_
        refine ⟨rfl, (k + 1, b3, b4), ⟨rfl, rfl, ?_, rfl, rfl, rfl, trivial⟩, ⟨by omega, by dsimp only; omega, H9, hM9, ?_, ?_, (hkp4 _ _ hb3 h43).2, fun ν o e => ?_⟩, by dsimp only; omega⟩
        · show some (Value.int .i64 0) = some (Value.int .i64 (hiM (L.take (k + 1)))); rw [htk, hiM_snoc, hT, hcx]; simp only [gt_iff_lt, hgt, if_true, if_false]
        · dsimp only; rw [htk, List.map_append, List.map_cons, List.map_nil, hcx]; exact (hkp4 _ _ hb3 h43).1
        · dsimp only; rw [iota_succ]; exact hb4
        · obtain ⟨e1, e2, e3⟩ := hkp ν o e
          obtain ⟨e4, e5⟩ := hkp3 _ _ e1 e2
          obtain ⟨e6, e7⟩ := hkp4 _ _ e4 e3
          exact ⟨e6, e5, e7⟩
      · refine WC.skip (WC.seq (WC.region ?_))
        refine mvO ?_
        refine mvO ?_
        refine cO (SV.buildSliceM (by assumption) rfl rfl (fun a13_2 s13_2 hf13_2 hne13_2 hn13_2 hM13_2 => ?_))
        refine cO ?_
        have hM13 : Models ro s13_2 (H1.up a13_2 (.row 1 [.int .i64 0])) := hM13_2
        refine SV.appendM (t := 23) (u := 23) (e := 3) (e' := 3) (sz := 1) (sz' := 1) (bytes := 8) (z := [.int .i64 0]) (n := k) (m := 1) (vs := ((L.take k).map cl).map (.int .i64)) (xs := [.int .i64 0]) rfl hM13 rfl rfl (SlO.ofRow (Hp.up_ne (hne13_2 _ _ hl1) hl1) (by rw [List.length_map, hlk, Nat.mul_one]))
          (Src.row Hp.up_same rfl rfl (fun j v h => by rw [Nat.zero_add]; exact h)) rfl (by omega) (fun v8 s8 H8 hn8 hM8 hv8 hk8 hnew8 hex8 => ?_)
        obtain ⟨b3, rfl, hb3, hkp3⟩ := app_one hl1 hlk hne13_2 hk8 hnew8 hex8
        refine asO ?_
        refine WO.nil ?_
        have hi2 : H8 a4 = _ := (hkp3 _ _ hi1 (Ne.symm h34)).1
        refine WC.region ?_
        refine mvO ?_
        refine mvO ?_
        refine cO (SV.buildSliceM (by assumption) rfl rfl (fun a14_2 s14_2 hf14_2 hne14_2 hn14_2 hM14_2 => ?_))
        refine cO ?_
        have hM14 : Models ro s14_2 (H8.up a14_2 (.row 1 [.int .i64 k])) := hM14_2
        refine SV.appendM (t := 23) (u := 23) (e := 3) (e' := 3) (sz := 1) (sz' := 1) (bytes := 8) (z := [.int .i64 0]) (n := k) (m := 1) (vs := (iota k).map (.int .i64)) (xs := [.int .i64 k]) rfl hM14 rfl rfl (SlO.ofRow (Hp.up_ne (hne14_2 _ _ hi2) hi2) (by rw [List.length_map, iota_length, Nat.mul_one]))
          (Src.row Hp.up_same rfl rfl (fun j v h => by rw [Nat.zero_add]; exact h)) rfl (by omega) (fun v9 s9 H9 hn9 hM9 hv9 hk9 hnew9 hex9 => ?_)
        obtain ⟨b4, rfl, hb4, hkp4⟩ := app_one hi2 (iota_length k) hne14_2 hk9 hnew9 hex9
        refine asO ?_
        refine WO.nil ?_
        have h43 : b3 ≠ a4 := fun e => (hkp3 _ _ hi1 (Ne.symm h34)).2 e.symm
        refine WC.region ?_
        refine cO (adI ?_)
        refine mvO ?_
        refine WO.nil ?_
        refine ⟨rfl, (k + 1, b3, b4), ⟨rfl, rfl, ?_, rfl, rfl, rfl, trivial⟩, ⟨by omega, by dsimp only; omega, H9, hM9, ?_, ?_, (hkp4 _ _ hb3 h43).2, fun ν o e => ?_⟩, by dsimp only; omega⟩
        · show some (Value.int .i64 T) = some (Value.int .i64 (hiM (L.take (k + 1)))); rw [htk, hiM_snoc, hT, hcx]; simp only [gt_iff_lt, hgt, if_true, if_false]
        · dsimp only; rw [htk, List.map_append, List.map_cons, List.map_nil, hcx]; exact (hkp4 _ _ hb3 h43).1
        · dsimp only; rw [iota_succ]; exact hb4
        · obtain ⟨e1, e2, e3⟩ := hkp ν o e
          obtain ⟨e4, e5⟩ := hkp3 _ _ e1 e2
          obtain ⟨e6, e7⟩ := hkp4 _ _ e4 e3
          exact ⟨e6, e5, e7⟩
    · refine WC.skip (WC.seq (WC.seq (WC.region ?_)))
      refine mvO ?_
      refine cO (SV.gtr rfl rfl ?_)
      refine WO.nil ?_
      refine WC.condD rfl (fun hx1 hx1b => ?_) (fun hx1 hx1b => ?_)
      · have hcx : cl x = 126 := by unfold cl; rw [if_neg hx0, if_pos hx1]
        refine WC.region ?_
        refine asO ?_
        refine WO.nil ?_
        refine WC.seq (WC.seq (WC.region ?_))
        refine mvO ?_
        refine mvO ?_
        refine cO (SV.gtr rfl rfl ?_)
        refine WO.nil ?_
        refine WC.condD rfl (fun hgt hgtb => ?_) (fun hgt hgtb => ?_)
        · skip
          refine WC.region ?_
          refine mvO ?_
          refine asO ?_
          refine WO.nil ?_
          refine WC.seq (WC.region ?_)
          refine mvO ?_
          refine mvO ?_
          refine cO (SV.buildSliceM (by assumption) rfl rfl (fun a13_2 s13_2 hf13_2 hne13_2 hn13_2 hM13_2 => ?_))
          refine cO ?_
          have hM13 : Models ro s13_2 (H1.up a13_2 (.row 1 [.int .i64 126])) := hM13_2
          refine SV.appendM (t := 23) (u := 23) (e := 3) (e' := 3) (sz := 1) (sz' := 1) (bytes := 8) (z := [.int .i64 0]) (n := k) (m := 1) (vs := ((L.take k).map cl).map (.int .i64)) (xs := [.int .i64 126]) rfl hM13 rfl rfl (SlO.ofRow (Hp.up_ne (hne13_2 _ _ hl1) hl1) (by rw [List.length_map, hlk, Nat.mul_one]))
            (Src.row Hp.up_same rfl rfl (fun j v h => by rw [Nat.zero_add]; exact h)) rfl (by omega) (fun v8 s8 H8 hn8 hM8 hv8 hk8 hnew8 hex8 => ?_)
          obtain ⟨b3, rfl, hb3, hkp3⟩ := app_one hl1 hlk hne13_2 hk8 hnew8 hex8
          refine asO ?_
          refine WO.nil ?_
          have hi2 : H8 a4 = _ := (hkp3 _ _ hi1 (Ne.symm h34)).1
          refine WC.region ?_
          refine mvO ?_
          refine mvO ?_
          refine cO (SV.buildSliceM (by assumption) rfl rfl (fun a14_2 s14_2 hf14_2 hne14_2 hn14_2 hM14_2 => ?_))
          refine cO ?_
          have hM14 : Models ro s14_2 (H8.up a14_2 (.row 1 [.int .i64 k])) := hM14_2
          refine SV.appendM (t := 23) (u := 23) (e := 3) (e' := 3) (sz := 1) (sz' := 1) (bytes := 8) (z := [.int .i64 0]) (n := k) (m := 1) (vs := (iota k).map (.int .i64)) (xs := [.int .i64 k]) rfl hM14 rfl rfl (SlO.ofRow (Hp.up_ne (hne14_2 _ _ hi2) hi2) (by rw [List.length_map, iota_length, Nat.mul_one]))
            (Src.row Hp.up_same rfl rfl (fun j v h => by rw [Nat.zero_add]; exact h)) rfl (by omega) (fun v9 s9 H9 hn9 hM9 hv9 hk9 hnew9 hex9 => ?_)
          obtain ⟨b4, rfl, hb4, hkp4⟩ := app_one hi2 (iota_length k) hne14_2 hk9 hnew9 hex9
          refine asO ?_
          refine WO.nil ?_
          have h43 : b3 ≠ a4 := fun e => (hkp3 _ _ hi1 (Ne.symm h34)).2 e.symm
          refine WC.region ?_
          refine cO (adI ?_)
          refine mvO ?_
          refine WO.nil ?_
          refine ⟨rfl, (k + 1, b3, b4), ⟨rfl, rfl, ?_, rfl, rfl, rfl, trivial⟩, ⟨by omega, by dsimp only; omega, H9, hM9, ?_, ?_, (hkp4 _ _ hb3 h43).2, fun ν o e => ?_⟩, by dsimp only; omega⟩
          · show some (Value.int .i64 126) = some (Value.int .i64 (hiM (L.take (k + 1)))); rw [htk, hiM_snoc, hT, hcx]; simp only [gt_iff_lt, hgt, if_true, if_false]
          · dsimp only; rw [htk, List.map_append, List.map_cons, List.map_nil, hcx]; exact (hkp4 _ _ hb3 h43).1
          · dsimp only; rw [iota_succ]; exact hb4
          · obtain ⟨e1, e2, e3⟩ := hkp ν o e
            obtain ⟨e4, e5⟩ := hkp3 _ _ e1 e2
            obtain ⟨e6, e7⟩ := hkp4 _ _ e4 e3
            exact ⟨e6, e5, e7⟩
        · refine WC.skip (WC.seq (WC.region ?_))
          refine mvO ?_
          refine mvO ?_
          refine cO (SV.buildSliceM (by assumption) rfl rfl (fun a13_2 s13_2 hf13_2 hne13_2 hn13_2 hM13_2 => ?_))
          refine cO ?_
          have hM13 : Models ro s13_2 (H1.up a13_2 (.row 1 [.int .i64 126])) := hM13_2
          refine SV.appendM (t := 23) (u := 23) (e := 3) (e' := 3) (sz := 1) (sz' := 1) (bytes := 8) (z := [.int .i64 0]) (n := k) (m := 1) (vs := ((L.take k).map cl).map (.int .i64)) (xs := [.int .i64 126]) rfl hM13 rfl rfl (SlO.ofRow (Hp.up_ne (hne13_2 _ _ hl1) hl1) (by rw [List.length_map, hlk, Nat.mul_one]))
            (Src.row Hp.up_same rfl rfl (fun j v h => by rw [Nat.zero_add]; exact h)) rfl (by omega) (fun v8 s8 H8 hn8 hM8 hv8 hk8 hnew8 hex8 => ?_)
          obtain ⟨b3, rfl, hb3, hkp3⟩ := app_one hl1 hlk hne13_2 hk8 hnew8 hex8
          refine asO ?_
          refine WO.nil ?_
          have hi2 : H8 a4 = _ := (hkp3 _ _ hi1 (Ne.symm h34)).1
          refine WC.region ?_
          refine mvO ?_
          refine mvO ?_
          refine cO (SV.buildSliceM (by assumption) rfl rfl (fun a14_2 s14_2 hf14_2 hne14_2 hn14_2 hM14_2 => ?_))
          refine cO ?_
          have hM14 : Models ro s14_2 (H8.up a14_2 (.row 1 [.int .i64 k])) := hM14_2
          refine SV.appendM (t := 23) (u := 23) (e := 3) (e' := 3) (sz := 1) (sz' := 1) (bytes := 8) (z := [.int .i64 0]) (n := k) (m := 1) (vs := (iota k).map (.int .i64)) (xs := [.int .i64 k]) rfl hM14 rfl rfl (SlO.ofRow (Hp.up_ne (hne14_2 _ _ hi2) hi2) (by rw [List.length_map, iota_length, Nat.mul_one]))
            (Src.row Hp.up_same rfl rfl (fun j v h => by rw [Nat.zero_add]; exact h)) rfl (by omega) (fun v9 s9 H9 hn9 hM9 hv9 hk9 hnew9 hex9 => ?_)
          obtain ⟨b4, rfl, hb4, hkp4⟩ := app_one hi2 (iota_length k) hne14_2 hk9 hnew9 hex9
          refine asO ?_
          refine WO.nil ?_
          have h43 : b3 ≠ a4 := fun e => (hkp3 _ _ hi1 (Ne.symm h34)).2 e.symm
          refine WC.region ?_
          refine cO (adI ?_)
          refine mvO ?_
          refine WO.nil ?_
          refine ⟨rfl, (k + 1, b3, b4), ⟨rfl, rfl, ?_, rfl, rfl, rfl, trivial⟩, ⟨by omega, by dsimp only; omega, H9, hM9, ?_, ?_, (hkp4 _ _ hb3 h43).2, fun ν o e => ?_⟩, by dsimp only; omega⟩
          · show some (Value.int .i64 T) = some (Value.int .i64 (hiM (L.take (k + 1)))); rw [htk, hiM_snoc, hT, hcx]; simp only [gt_iff_lt, hgt, if_true, if_false]
          · dsimp only; rw [htk, List.map_append, List.map_cons, List.map_nil, hcx]; exact (hkp4 _ _ hb3 h43).1
          · dsimp only; rw [iota_succ]; exact hb4
          · obtain ⟨e1, e2, e3⟩ := hkp ν o e
            obtain ⟨e4, e5⟩ := hkp3 _ _ e1 e2
            obtain ⟨e6, e7⟩ := hkp4 _ _ e4 e3
            exact ⟨e6, e5, e7⟩
      · have hcx : cl x = x := by unfold cl; rw [if_neg hx0, if_neg hx1]
        refine WC.skip (WC.seq (WC.seq (WC.region ?_)))
        refine mvO ?_
        refine mvO ?_
        refine cO (SV.gtr rfl rfl ?_)
        refine WO.nil ?_
        refine WC.condD rfl (fun hgt hgtb => ?_) (fun hgt hgtb => ?_)
        · skip
          refine WC.region ?_
          refine mvO ?_
          refine asO ?_
          refine WO.nil ?_
          refine WC.seq (WC.region ?_)
          refine mvO ?_
          refine mvO ?_
          refine cO (SV.buildSliceM (by assumption) rfl rfl (fun a13_2 s13_2 hf13_2 hne13_2 hn13_2 hM13_2 => ?_))
          refine cO ?_
          have hM13 : Models ro s13_2 (H1.up a13_2 (.row 1 [.int .i64 x])) := hM13_2
          refine SV.appendM (t := 23) (u := 23) (e := 3) (e' := 3) (sz := 1) (sz' := 1) (bytes := 8) (z := [.int .i64 0]) (n := k) (m := 1) (vs := ((L.take k).map cl).map (.int .i64)) (xs := [.int .i64 x]) rfl hM13 rfl rfl (SlO.ofRow (Hp.up_ne (hne13_2 _ _ hl1) hl1) (by rw [List.length_map, hlk, Nat.mul_one]))
            (Src.row Hp.up_same rfl rfl (fun j v h => by rw [Nat.zero_add]; exact h)) rfl (by omega) (fun v8 s8 H8 hn8 hM8 hv8 hk8 hnew8 hex8 => ?_)
          obtain ⟨b3, rfl, hb3, hkp3⟩ := app_one hl1 hlk hne13_2 hk8 hnew8 hex8
          refine asO ?_
          refine WO.nil ?_
          have hi2 : H8 a4 = _ := (hkp3 _ _ hi1 (Ne.symm h34)).1
          refine WC.region ?_
          refine mvO ?_
          refine mvO ?_
          refine cO (SV.buildSliceM (by assumption) rfl rfl (fun a14_2 s14_2 hf14_2 hne14_2 hn14_2 hM14_2 => ?_))
          refine cO ?_
          have hM14 : Models ro s14_2 (H8.up a14_2 (.row 1 [.int .i64 k])) := hM14_2
          refine SV.appendM (t := 23) (u := 23) (e := 3) (e' := 3) (sz := 1) (sz' := 1) (bytes := 8) (z := [.int .i64 0]) (n := k) (m := 1) (vs := (iota k).map (.int .i64)) (xs := [.int .i64 k]) rfl hM14 rfl rfl (SlO.ofRow (Hp.up_ne (hne14_2 _ _ hi2) hi2) (by rw [List.length_map, iota_length, Nat.mul_one]))
            (Src.row Hp.up_same rfl rfl (fun j v h => by rw [Nat.zero_add]; exact h)) rfl (by omega) (fun v9 s9 H9 hn9 hM9 hv9 hk9 hnew9 hex9 => ?_)
          obtain ⟨b4, rfl, hb4, hkp4⟩ := app_one hi2 (iota_length k) hne14_2 hk9 hnew9 hex9
          refine asO ?_
          refine WO.nil ?_
          have h43 : b3 ≠ a4 := fun e => (hkp3 _ _ hi1 (Ne.symm h34)).2 e.symm
          refine WC.region ?_
          refine cO (adI ?_)
          refine mvO ?_
          refine WO.nil ?_
          refine ⟨rfl, (k + 1, b3, b4), ⟨rfl, rfl, ?_, rfl, rfl, rfl, trivial⟩, ⟨by omega, by dsimp only; omega, H9, hM9, ?_, ?_, (hkp4 _ _ hb3 h43).2, fun ν o e => ?_⟩, by dsimp only; omega⟩
          · show some (Value.int .i64 x) = some (Value.int .i64 (hiM (L.take (k + 1)))); rw [htk, hiM_snoc, hT, hcx]; simp only [gt_iff_lt, hgt, if_true, if_false]
          · dsimp only; rw [htk, List.map_append, List.map_cons, List.map_nil, hcx]; exact (hkp4 _ _ hb3 h43).1
          · dsimp only; rw [iota_succ]; exact hb4
          · obtain ⟨e1, e2, e3⟩ := hkp ν o e
            obtain ⟨e4, e5⟩ := hkp3 _ _ e1 e2
            obtain ⟨e6, e7⟩ := hkp4 _ _ e4 e3
            exact ⟨e6, e5, e7⟩
        · refine WC.skip (WC.seq (WC.region ?_))
          refine mvO ?_
          refine mvO ?_
          refine cO (SV.buildSliceM (by assumption) rfl rfl (fun a13_2 s13_2 hf13_2 hne13_2 hn13_2 hM13_2 => ?_))
          refine cO ?_
          have hM13 : Models ro s13_2 (H1.up a13_2 (.row 1 [.int .i64 x])) := hM13_2
          refine SV.appendM (t := 23) (u := 23) (e := 3) (e' := 3) (sz := 1) (sz' := 1) (bytes := 8) (z := [.int .i64 0]) (n := k) (m := 1) (vs := ((L.take k).map cl).map (.int .i64)) (xs := [.int .i64 x]) rfl hM13 rfl rfl (SlO.ofRow (Hp.up_ne (hne13_2 _ _ hl1) hl1) (by rw [List.length_map, hlk, Nat.mul_one]))
            (Src.row Hp.up_same rfl rfl (fun j v h => by rw [Nat.zero_add]; exact h)) rfl (by omega) (fun v8 s8 H8 hn8 hM8 hv8 hk8 hnew8 hex8 => ?_)
          obtain ⟨b3, rfl, hb3, hkp3⟩ := app_one hl1 hlk hne13_2 hk8 hnew8 hex8
          refine asO ?_
          refine WO.nil ?_
          have hi2 : H8 a4 = _ := (hkp3 _ _ hi1 (Ne.symm h34)).1
          refine WC.region ?_
          refine mvO ?_
          refine mvO ?_
          refine cO (SV.buildSliceM (by assumption) rfl rfl (fun a14_2 s14_2 hf14_2 hne14_2 hn14_2 hM14_2 => ?_))
          refine cO ?_
          have hM14 : Models ro s14_2 (H8.up a14_2 (.row 1 [.int .i64 k])) := hM14_2
          refine SV.appendM (t := 23) (u := 23) (e := 3) (e' := 3) (sz := 1) (sz' := 1) (bytes := 8) (z := [.int .i64 0]) (n := k) (m := 1) (vs := (iota k).map (.int .i64)) (xs := [.int .i64 k]) rfl hM14 rfl rfl (SlO.ofRow (Hp.up_ne (hne14_2 _ _ hi2) hi2) (by rw [List.length_map, iota_length, Nat.mul_one]))
            (Src.row Hp.up_same rfl rfl (fun j v h => by rw [Nat.zero_add]; exact h)) rfl (by omega) (fun v9 s9 H9 hn9 hM9 hv9 hk9 hnew9 hex9 => ?_)
          obtain ⟨b4, rfl, hb4, hkp4⟩ := app_one hi2 (iota_length k) hne14_2 hk9 hnew9 hex9
          refine asO ?_
          refine WO.nil ?_
          have h43 : b3 ≠ a4 := fun e => (hkp3 _ _ hi1 (Ne.symm h34)).2 e.symm
          refine WC.region ?_
          refine cO (adI ?_)
          refine mvO ?_
          refine WO.nil ?_
          refine ⟨rfl, (k + 1, b3, b4), ⟨rfl, rfl, ?_, rfl, rfl, rfl, trivial⟩, ⟨by omega, by dsimp only; omega, H9, hM9, ?_, ?_, (hkp4 _ _ hb3 h43).2, fun ν o e => ?_⟩, by dsimp only; omega⟩
          · show some (Value.int .i64 T) = some (Value.int .i64 (hiM (L.take (k + 1)))); rw [htk, hiM_snoc, hT, hcx]; simp only [gt_iff_lt, hgt, if_true, if_false]
          · dsimp only; rw [htk, List.map_append, List.map_cons, List.map_nil, hcx]; exact (hkp4 _ _ hb3 h43).1
          · dsimp only; rw [iota_succ]; exact hb4
          · obtain ⟨e1, e2, e3⟩ := hkp ν o e
            obtain ⟨e4, e5⟩ := hkp3 _ _ e1 e2
            obtain ⟨e6, e7⟩ := hkp4 _ _ e4 e3
            exact ⟨e6, e5, e7⟩
  · have hke : k = n := by omega
    subst hke
    have e1 : L.take k = L := by rw [← hL, List.take_length]
    rw [e1] at hl1 ⊢
    obtain ⟨hT0, hT1, hT2⟩ := hiM_ok _ L rfl
    have hll : (L.map cl).length = k := by rw [List.length_map]; exact hL
    have hV : downs (L.map cl) (hiM L).toNat (iota k) = visM L := by
      unfold visM
      rw [hL, downs_top (L.map cl) (iota k) (hiM L).toNat (fun b hb => by
        have hb2 : b < L.length := by simpa using hb
        rw [List.getD_eq_getElem?_getD, List.getElem?_map, List.getElem?_eq_getElem hb2]
        have := hT2 _ (List.getElem_mem hb2)
        show cl L[b] ≤ _
        omega) 126 (by omega)]
    have hoo : (iota k).length = k := iota_length _
    generalize hiM L = T at hT0 hT1 hV
    generalize L.map cl = l at hl1 hll hV
    generalize iota k = out at hi1 hoo hV
    generalize hW : visM L = W at hV
    refine WC.exit (WC.seq (WC.seq ?_))
    refine WC.region ?_
    refine mvO ?_
    refine asO ?_
    refine WO.nil ?_
    refine WC.block ?_
    refine WC.loop (D := Nat × List Int) (fun x => [(3, .slice (some ⟨a3, 0, none⟩) k k), (4, .slice (some ⟨a4, 0, none⟩) k k), (8, .int .i64 x.1)])
      (fun x s1 => s.next ≤ s1.next ∧ Models ro s1 (H1.up a4 (.row 1 (x.2.map (.int .i64)))) ∧ x.2.length = k ∧ x.1 ≤ 126 ∧ downs l x.1 x.2 = W)
      (fun x => x.1) (T.toNat, out) ?_ ⟨by omega, by rw [Hp.up_self hi1]; exact hM1, hoo, by dsimp only; omega, hV⟩ ?_
    · refine ⟨rfl, rfl, ?_, trivial⟩
      show some (Value.int .i64 T) = some (Value.int .i64 ((T.toNat : Nat) : Int)); rw [Int.toNat_of_nonneg hT0]
    clear hM1 hoo hV
    rintro ⟨v, o1⟩ g2 s2 ⟨hn2, hM2, ho1, hv, hd⟩
    dsimp only at hn2 hM2 ho1 hv hd ⊢
    refine WC.seq (WC.seq (WC.region ?_))
    refine mvO ?_
    refine cO (SV.gtr rfl rfl ?_)
    refine WO.nil ?_
    refine WC.condD rfl (fun hv1 hv1b => ?_) (fun hv1 hv1b => ?_)
    · obtain ⟨u, rfl⟩ : ∃ u, v = u + 1 := ⟨v - 1, by omega⟩
      simp only [downs] at hd
      refine WC.skip (WC.seq (WC.block (WC.seq (WC.region ?_))))
      refine asO ?_
      refine WO.nil ?_
      refine WC.block ?_
      refine WC.loop (D := Nat × List Int) (fun x => [(3, .slice (some ⟨a3, 0, none⟩) k k), (4, .slice (some ⟨a4, 0, none⟩) k k), (8, .int .i64 ((u + 1 : Nat) : Int)), (9, .int .i64 x.1)])
        (fun x s1 => s.next ≤ s1.next ∧ Models ro s1 (H1.up a4 (.row 1 (x.2.map (.int .i64)))) ∧ x.2.length = k ∧ x.1 ≤ k + 1 ∧ downs l u (pass l ((u : Int) + 1) x.1 x.2) = W)
        (fun x => k + 1 - x.1) (0, o1) ?_ ⟨by omega, hM2, ho1, by dsimp only; omega, hd⟩ ?_
      · exact ⟨rfl, rfl, rfl, rfl, trivial⟩
      clear hM2 ho1 hd
      rintro ⟨a, o2⟩ g3 s3 ⟨hn3, hM3, ho2, ha, hd⟩
      dsimp only at hn3 hM3 ho2 ha hd ⊢
      refine WC.seq (WC.seq (WC.region ?_))
      refine mvO ?_
      refine mvO ?_
      refine cO (SV.len rfl rfl ?_)
      refine cO (SV.lss rfl rfl ?_)
      refine WO.nil ?_
      refine WC.condD rfl (fun ha1 ha1b => ?_) (fun ha1 ha1b => ?_)
      · rw [pass, if_pos (by omega)] at hd
        have hge := endOf_ge l ((u : Int) + 1) a
        have hle := endOf_le l ((u : Int) + 1) a (by omega)
        refine WC.skip (WC.block (WC.seq (WC.region ?_)))
        refine mvO ?_
        refine asO ?_
        refine WO.nil ?_
        refine WC.seq (WC.block ?_)
        refine WC.loop (D := Nat) (fun x => [(3, .slice (some ⟨a3, 0, none⟩) k k), (4, .slice (some ⟨a4, 0, none⟩) k k), (8, .int .i64 ((u + 1 : Nat) : Int)), (9, .int .i64 a), (10, .int .i64 x)])
          (fun x s1 => s.next ≤ s1.next ∧ Models ro s1 (H1.up a4 (.row 1 (o2.map (.int .i64)))) ∧ a ≤ x ∧ x ≤ k ∧ endOf l ((u : Int) + 1) x = endOf l ((u : Int) + 1) a)
          (fun x => k - x) a ?_ ⟨by omega, hM3, by omega, by omega, rfl⟩ ?_
        · exact ⟨rfl, rfl, rfl, rfl, rfl, trivial⟩
        clear hM3
        rintro b g4 s4 ⟨hn4, hM4, hab, hb, hend⟩
        have hl4 : (H1.up a4 (.row 1 (o2.map (.int .i64)))) a3 = _ := Hp.up_ne h34 hl1
        by_cases hb1 : b < k
        · have hd1 : decide ((b : Int) < k) = true := decide_eq_true (by omega)
          by_cases hb2 : (u : Int) + 1 ≤ l.getD b 0
          · have hd2 : decide (((u + 1 : Nat) : Int) ≤ rd l b) = true := decide_eq_true (by rw [rd_getD rfl]; omega)
            refine WC.seq (WC.seq (WC.region ?_))
            refine mvO ?_
            refine mvO ?_
            refine cO (SV.len rfl rfl ?_)
            refine cO (SV.lss rfl rfl ?_)
            refine mvO ?_
            refine gyO (SV.moveV (by constructor) ?_)
            all_goals refine gyO (SV.moveV (by constructor) ?_)
            all_goals refine gyO (SV.indexAddr rfl rfl (by omega) ?_)
            all_goals refine gyO (ldI ?_)
            all_goals refine gyO (SV.moveV (by constructor) ?_)
            all_goals refine gyO (SV.geq rfl rfl ?_)
            all_goals refine cO (pT ?_)
            all_goals refine WO.nil ?_
            refine WC.condT rfl (by assumption) (WC.skip (WC.block ?_))
            refine WC.region ?_
            refine mvO ?_
            refine cO (adI ?_)
            refine asO ?_
            refine WO.nil ?_
            have e : endOf l ((u : Int) + 1) b = endOf l ((u : Int) + 1) (b + 1) := by rw [endOf, if_pos (by omega), if_pos hb2]
            exact ⟨rfl, b + 1, ⟨rfl, rfl, rfl, rfl, rfl, trivial⟩, ⟨by omega, hM4, by omega, by omega, by rw [← e, hend]⟩, by omega⟩
          · have hd2 : decide (((u + 1 : Nat) : Int) ≤ rd l b) = false := decide_eq_false (by rw [rd_getD rfl]; omega)
            refine WC.seq (WC.seq (WC.region ?_))
            refine mvO ?_
            refine mvO ?_
            refine cO (SV.len rfl rfl ?_)
            refine cO (SV.lss rfl rfl ?_)
            refine mvO ?_
            refine gyO (SV.moveV (by constructor) ?_)
            all_goals refine gyO (SV.moveV (by constructor) ?_)
            all_goals refine gyO (SV.indexAddr rfl rfl (by omega) ?_)
            all_goals refine gyO (ldI ?_)
            all_goals refine gyO (SV.moveV (by constructor) ?_)
            all_goals refine gyO (SV.geq rfl rfl ?_)
            all_goals refine cO (pT ?_)
            all_goals refine WO.nil ?_
            refine WC.condF rfl (by assumption) (WC.exit (WC.seq (WC.seq ?_)))
            have e : endOf l ((u : Int) + 1) b = b := by rw [endOf, if_pos (by omega), if_neg hb2]
            rw [hend] at e
            rw [e] at hd
            refine WC.region ?_
            refine mvO ?_
            refine mvO ?_
            refine cO (sbI ?_)
            refine asO ?_
            refine asO ?_
            refine WO.nil ?_
            refine WC.block ?_
            refine WC.loop (D := Nat × List Int) (fun x => [(3, .slice (some ⟨a3, 0, none⟩) k k), (4, .slice (some ⟨a4, 0, none⟩) k k), (8, .int .i64 ((u + 1 : Nat) : Int)), (10, .int .i64 b), (11, .int .i64 ((a : Int) + x.1)), (12, .int .i64 ((b : Int) - 1 - x.1))])
              (fun x s1 => s.next ≤ s1.next ∧ Models ro s1 (H1.up a4 (.row 1 (x.2.map (.int .i64)))) ∧ x.2.length = k ∧ ((x.1 : Int) ≤ (b : Int) - a + 1 - x.1) ∧ (if x.1 < b - a - x.1 then rev x.2 (a + x.1) (a + (b - a - x.1)) else x.2) = rev o2 a b)
              (fun x => b - a - x.1) (0, o2) ?_ ⟨by omega, hM4, ho2, by dsimp only; omega, ?_⟩ ?_
            · refine ⟨rfl, rfl, rfl, rfl, ?_, ?_, trivial⟩
              · show some (Value.int .i64 (a : Int)) = some (Value.int .i64 ((a : Int) + ((0 : Nat) : Int))); simp
              · show some (Value.int .i64 ((b : Int) - 1)) = some (Value.int .i64 ((b : Int) - 1 - ((0 : Nat) : Int))); simp
            · dsimp only
              split
              · rw [Nat.add_zero, Nat.sub_zero, show a + (b - a) = b by omega]
              · rw [show b = a by omega, rev_same _ _ (by omega)]
            rintro ⟨d, M⟩ g5 s5 ⟨hn5, hM5, hlM, hdl, hres⟩
            dsimp only at hn5 hM5 hlM hdl hres ⊢
            refine WC.seq (WC.seq (WC.region ?_))
            refine mvO ?_
            refine mvO ?_
            refine cO (SV.lss rfl rfl ?_)
            refine WO.nil ?_
            refine WC.condD rfl (fun hij hijb => ?_) (fun hij hijb => ?_)
            · have hlt2 : d < b - a - d := by omega
              rw [if_pos hlt2] at hres
              refine WC.skip (WC.seq (WC.block (WC.seq (WC.region ?_))))
              refine mvO ?_
              refine mvO ?_
              refine cO (SV.indexAddr rfl rfl (by omega) ?_)
              refine cO (SV.loadM (by assumption) rfl (by exact Hp.up_same) (by exact ints_get0 (by omega) (by omega)) ?_)
              refine asO ?_
              refine WO.nil ?_
              refine WC.seq (WC.region ?_)
              refine mvO ?_
              refine mvO ?_
              refine mvO ?_
              refine mvO ?_
              refine cO (SV.indexAddr rfl rfl (by omega) ?_)
              refine cO (SV.loadM (by assumption) rfl (by exact Hp.up_same) (by exact ints_get0 (by omega) (by omega)) ?_)
              refine cO (SV.indexAddr rfl rfl (by omega) ?_)
              refine WO.cons0 (SV.storeV (by assumption) rfl (by constructor) (by exact Hp.up_same) (by (simp only [List.length_map]; omega)) (fun s28_7 hn28_7 hM28_7 => ?_))
              refine WO.nil ?_
              rw [Hp.up_up, ints_setO, show 0 + ((a : Int) + d).toNat = a + d by omega, rd_getD (k := a + (b - a - d) - 1) (by omega)] at hM28_7
              have hlM2 : (M.set (a + d) (M.getD (a + (b - a - d) - 1) 0)).length = k := by simpa using hlM
              refine WC.region ?_
              refine mvO ?_
              refine mvO ?_
              refine mvO ?_
              refine cO (SV.indexAddr rfl rfl (by omega) ?_)
              refine WO.cons0 (SV.storeV (by assumption) rfl (by constructor) (by exact Hp.up_same) (by (simp only [List.length_map]; omega)) (fun s29_4 hn29_4 hM29_4 => ?_))
              refine WO.nil ?_
              rw [Hp.up_up, ints_setO, show 0 + ((b : Int) - 1 - d).toNat = a + (b - a - d) - 1 by omega, rd_getD (k := a + d) (by omega)] at hM29_4
              have hstep := rev_step M (a + d) (a + (b - a - d)) (by omega) (by omega)
              refine WC.region ?_
              refine mvO ?_
              refine cO (adI ?_)
              refine mvO ?_
              refine cO (sbI ?_)
              refine asO ?_
              refine asO ?_
              refine WO.nil ?_
              refine ⟨rfl, (d + 1, (M.set (a + d) (M.getD (a + (b - a - d) - 1) 0)).set (a + (b - a - d) - 1) (M.getD (a + d) 0)), ⟨rfl, rfl, rfl, rfl, ?_, ?_, trivial⟩, ⟨by omega, hM29_4, by simpa using hlM, by dsimp only; omega, ?_⟩, by dsimp only; omega⟩
              · show some (Value.int .i64 ((a : Int) + d + 1)) = some (Value.int .i64 ((a : Int) + ((d + 1 : Nat) : Int))); rw [show (a : Int) + d + 1 = (a : Int) + ((d + 1 : Nat) : Int) by omega]
              · show some (Value.int .i64 ((b : Int) - 1 - d - 1)) = some (Value.int .i64 ((b : Int) - 1 - ((d + 1 : Nat) : Int))); congr 2; omega
              · dsimp only
                rw [← hres, ← hstep]
                split
                · rw [show a + d + 1 = a + (d + 1) by omega, show a + (b - a - d) - 1 = a + (b - a - (d + 1)) by omega]
                · have hl2 : ((M.set (a + d) (M.getD (a + (b - a - d) - 1) 0)).set (a + (b - a - d) - 1) (M.getD (a + d) 0)).length = k := by simpa using hlM
                  generalize (M.set (a + d) (M.getD (a + (b - a - d) - 1) 0)).set (a + (b - a - d) - 1) (M.getD (a + d) 0) = M2 at hl2 ⊢
                  rw [show a + (b - a - d) - 1 = a + d + 1 by omega]
                  exact (rev_same _ _ (by rw [hl2]; omega)).symm
            · have hr : M = rev o2 a b := by
                rw [← hres]
                split
                · rw [show a + (b - a - d) = a + d + 1 by omega, rev_one _ _ (by omega)]
                · rfl
              refine WC.exit ?_
              refine WC.region ?_
              refine mvO ?_
              refine cO (adI ?_)
              refine asO ?_
              refine WO.nil ?_
              refine ⟨rfl, (b + 1, M), ⟨rfl, rfl, rfl, rfl, trivial⟩, ⟨by omega, hM5, hlM, by dsimp only; omega, ?_⟩, by dsimp only; omega⟩
              dsimp only
              rw [hr]
              by_cases hab2 : a < b
              · rw [if_pos (by omega)] at hd; exact hd
              · have hba : b = a := by omega
                rw [if_neg (by omega)] at hd
                rw [hba, rev_same _ _ (by omega)]; exact hd
        · have hd1 : decide ((b : Int) < k) = false := decide_eq_false (by omega)
          refine WC.seq (WC.seq (WC.region ?_))
          refine mvO ?_
          refine mvO ?_
          refine cO (SV.len rfl rfl ?_)
          refine cO (SV.lss rfl rfl ?_)
          refine mvO ?_
          refine gnO ?_
          all_goals refine gnO ?_
          all_goals refine gnO ?_
          all_goals refine gnO ?_
          all_goals refine gnO ?_
          all_goals refine gnO ?_
          all_goals refine cO (pF ?_)
          all_goals refine WO.nil ?_
          refine WC.condF rfl (by rfl) (WC.exit (WC.seq (WC.seq ?_)))
          have e : endOf l ((u : Int) + 1) b = b := by rw [endOf, if_neg (by omega)]
          rw [hend] at e
          rw [e] at hd
          refine WC.region ?_
          refine mvO ?_
          refine mvO ?_
          refine cO (sbI ?_)
          refine asO ?_
          refine asO ?_
          refine WO.nil ?_
          refine WC.block ?_
          refine WC.loop (D := Nat × List Int) (fun x => [(3, .slice (some ⟨a3, 0, none⟩) k k), (4, .slice (some ⟨a4, 0, none⟩) k k), (8, .int .i64 ((u + 1 : Nat) : Int)), (10, .int .i64 b), (11, .int .i64 ((a : Int) + x.1)), (12, .int .i64 ((b : Int) - 1 - x.1))])
            (fun x s1 => s.next ≤ s1.next ∧ Models ro s1 (H1.up a4 (.row 1 (x.2.map (.int .i64)))) ∧ x.2.length = k ∧ ((x.1 : Int) ≤ (b : Int) - a + 1 - x.1) ∧ (if x.1 < b - a - x.1 then rev x.2 (a + x.1) (a + (b - a - x.1)) else x.2) = rev o2 a b)
            (fun x => b - a - x.1) (0, o2) ?_ ⟨by omega, hM4, ho2, by dsimp only; omega, ?_⟩ ?_
          · refine ⟨rfl, rfl, rfl, rfl, ?_, ?_, trivial⟩
            · show some (Value.int .i64 (a : Int)) = some (Value.int .i64 ((a : Int) + ((0 : Nat) : Int))); simp
            · show some (Value.int .i64 ((b : Int) - 1)) = some (Value.int .i64 ((b : Int) - 1 - ((0 : Nat) : Int))); simp
          · dsimp only
            split
            · rw [Nat.add_zero, Nat.sub_zero, show a + (b - a) = b by omega]
            · rw [show b = a by omega, rev_same _ _ (by omega)]
          rintro ⟨d, M⟩ g5 s5 ⟨hn5, hM5, hlM, hdl, hres⟩
          dsimp only at hn5 hM5 hlM hdl hres ⊢
          refine WC.seq (WC.seq (WC.region ?_))
          refine mvO ?_
          refine mvO ?_
          refine cO (SV.lss rfl rfl ?_)
          refine WO.nil ?_
          refine WC.condD rfl (fun hij hijb => ?_) (fun hij hijb => ?_)
          · have hlt2 : d < b - a - d := by omega
            rw [if_pos hlt2] at hres
            refine WC.skip (WC.seq (WC.block (WC.seq (WC.region ?_))))
            refine mvO ?_
            refine mvO ?_
            refine cO (SV.indexAddr rfl rfl (by omega) ?_)
            refine cO (SV.loadM (by assumption) rfl (by exact Hp.up_same) (by exact ints_get0 (by omega) (by omega)) ?_)
            refine asO ?_
            refine WO.nil ?_
            refine WC.seq (WC.region ?_)
            refine mvO ?_
            refine mvO ?_
            refine mvO ?_
            refine mvO ?_
            refine cO (SV.indexAddr rfl rfl (by omega) ?_)
            refine cO (SV.loadM (by assumption) rfl (by exact Hp.up_same) (by exact ints_get0 (by omega) (by omega)) ?_)
            refine cO (SV.indexAddr rfl rfl (by omega) ?_)
            refine WO.cons0 (SV.storeV (by assumption) rfl (by constructor) (by exact Hp.up_same) (by (simp only [List.length_map]; omega)) (fun s28_7 hn28_7 hM28_7 => ?_))
            refine WO.nil ?_
            rw [Hp.up_up, ints_setO, show 0 + ((a : Int) + d).toNat = a + d by omega, rd_getD (k := a + (b - a - d) - 1) (by omega)] at hM28_7
            have hlM2 : (M.set (a + d) (M.getD (a + (b - a - d) - 1) 0)).length = k := by simpa using hlM
            refine WC.region ?_
            refine mvO ?_
            refine mvO ?_
            refine mvO ?_
            refine cO (SV.indexAddr rfl rfl (by omega) ?_)
            refine WO.cons0 (SV.storeV (by assumption) rfl (by constructor) (by exact Hp.up_same) (by (simp only [List.length_map]; omega)) (fun s29_4 hn29_4 hM29_4 => ?_))
            refine WO.nil ?_
            rw [Hp.up_up, ints_setO, show 0 + ((b : Int) - 1 - d).toNat = a + (b - a - d) - 1 by omega, rd_getD (k := a + d) (by omega)] at hM29_4
            have hstep := rev_step M (a + d) (a + (b - a - d)) (by omega) (by omega)
            refine WC.region ?_
            refine mvO ?_
            refine cO (adI ?_)
            refine mvO ?_
            refine cO (sbI ?_)
            refine asO ?_
            refine asO ?_
            refine WO.nil ?_
            refine ⟨rfl, (d + 1, (M.set (a + d) (M.getD (a + (b - a - d) - 1) 0)).set (a + (b - a - d) - 1) (M.getD (a + d) 0)), ⟨rfl, rfl, rfl, rfl, ?_, ?_, trivial⟩, ⟨by omega, hM29_4, by simpa using hlM, by dsimp only; omega, ?_⟩, by dsimp only; omega⟩
            · show some (Value.int .i64 ((a : Int) + d + 1)) = some (Value.int .i64 ((a : Int) + ((d + 1 : Nat) : Int))); rw [show (a : Int) + d + 1 = (a : Int) + ((d + 1 : Nat) : Int) by omega]
            · show some (Value.int .i64 ((b : Int) - 1 - d - 1)) = some (Value.int .i64 ((b : Int) - 1 - ((d + 1 : Nat) : Int))); congr 2; omega
            · dsimp only
              rw [← hres, ← hstep]
              split
              · rw [show a + d + 1 = a + (d + 1) by omega, show a + (b - a - d) - 1 = a + (b - a - (d + 1)) by omega]
              · have hl2 : ((M.set (a + d) (M.getD (a + (b - a - d) - 1) 0)).set (a + (b - a - d) - 1) (M.getD (a + d) 0)).length = k := by simpa using hlM
                generalize (M.set (a + d) (M.getD (a + (b - a - d) - 1) 0)).set (a + (b - a - d) - 1) (M.getD (a + d) 0) = M2 at hl2 ⊢
                rw [show a + (b - a - d) - 1 = a + d + 1 by omega]
                exact (rev_same _ _ (by rw [hl2]; omega)).symm
          · have hr : M = rev o2 a b := by
              rw [← hres]
              split
              · rw [show a + (b - a - d) = a + d + 1 by omega, rev_one _ _ (by omega)]
              · rfl
            refine WC.exit ?_
            refine WC.region ?_
            refine mvO ?_
            refine cO (adI ?_)
            refine asO ?_
            refine WO.nil ?_
            refine ⟨rfl, (b + 1, M), ⟨rfl, rfl, rfl, rfl, trivial⟩, ⟨by omega, hM5, hlM, by dsimp only; omega, ?_⟩, by dsimp only; omega⟩
            dsimp only
            rw [hr]
            by_cases hab2 : a < b
            · rw [if_pos (by omega)] at hd; exact hd
            · have hba : b = a := by omega
              rw [if_neg (by omega)] at hd
              rw [hba, rev_same _ _ (by omega)]; exact hd
      · refine WC.exit ?_
        rw [pass, if_neg (by omega)] at hd
        refine WC.region ?_
        refine mvO ?_
        refine cO (sbI ?_)
        refine asO ?_
        refine WO.nil ?_
        refine ⟨rfl, (u, o2), ⟨rfl, rfl, ?_, trivial⟩, ⟨by omega, hM3, ho2, by dsimp only; omega, hd⟩, by dsimp only; omega⟩
        show some (Value.int .i64 (((u + 1 : Nat) : Int) - 1)) = some (Value.int .i64 (u : Int)); congr 2; omega
    · obtain rfl : v = 0 := by omega
      simp only [downs] at hd
      subst hd
      refine WC.exit (WC.seq ?_)
      refine WC.region ?_
      refine mvO ?_
      refine asO ?_
      refine WO.nil ?_
      refine WC.ret ?_
      exact fin_one (e := .ret) (v := .slice _ _ _) rfl trivial rfl hn2 hM2 ⟨a4, rfl, Hp.up_same, fun ν o e => ⟨Hp.up_ne (hkp ν o e).2.2 (hkp ν o e).1, (hkp ν o e).2.2⟩⟩
end Go.Proofs.Ythkklpegjcnjoaa

namespace Go.Proofs.Ythkklpegjcnjoaa
open Go.Ab
variable {X : CallE} {ro : Nat}
set_option maxRecDepth 10000
set_option linter.unusedVariables false
set_option linter.unusedSimpArgs false

set_option maxHeartbeats 4000000 in
theorem visual14_sp {s : St} {H : Hp} {w : Value} {R : List RunE} {n : Nat} (hX : OwnX X) (hM : Models ro s H) (hw : SlO H w 4 n (R.flatMap enc4)) (hR : R.length = n) (hn : n ≤ 16384) :
    Sp X Try.prog ro 32 [w] s fun v H' => ∃ a, v = .slice (some ⟨a, 0, none⟩) n n ∧ H' a = some (.row 1 ((visM (R.map RunE.l)).map (.int .i64))) ∧ ∀ ν o, H ν = some o → H' ν = some o ∧ ν ≠ a := by
  refine Sp.of_body (hX _ _ _ (by decide) (by decide) (by decide) (by decide)) Try.func32 rfl Try.ntmps32 (by simp) ?_
  refine WC.seq (WC.region ?_)
  refine asO ?_
  refine WO.nil ?_
  refine WC.seq (WC.region ?_)
  refine cO (SV.buildSliceM (by assumption) rfl rfl (fun a1_0 s1_0 hf1_0 hne1_0 hn1_0 hM1_0 => ?_))
  refine asO ?_
  refine WO.nil ?_
  refine WC.seq (WC.seq (WC.region ?_))
  refine cO (SV.move ?_)
  refine cO (SV.lenO rfl rfl (by assumption) ?_)
  refine mvO ?_
  refine WO.nil ?_
  refine WC.block ?_
  refine WC.loop (D := Nat × Nat) (fun x => [(3, .slice (some ⟨x.2, 0, none⟩) x.1 x.1), (7, w), (8, .int .i64 n), (9, .int .i64 x.1)])
    (fun x s1 => s.next ≤ s1.next ∧ x.1 ≤ n ∧ ∃ H1, Models ro s1 H1 ∧ H1 x.2 = some (.row 1 (((R.take x.1).map RunE.l).map (.int .i64))) ∧ ∀ ν o, H ν = some o → H1 ν = some o ∧ ν ≠ x.2)
    (fun x => n - x.1) (0, a1_0) ?_ ⟨by omega, by dsimp only; omega, _, hM1_0, Hp.up_same, fun ν o e => ⟨Hp.up_ne (hne1_0 _ _ e) e, hne1_0 _ _ e⟩⟩ ?_
  · exact ⟨rfl, rfl, rfl, rfl, trivial⟩
  rintro ⟨k, a3⟩ g s1 ⟨hn1, hk, H1, hM1, hl1, hkp⟩
  dsimp only at hn1 hk hM1 hl1 hkp ⊢
  refine WC.seq (WC.region ?_)
  refine cO (SV.lss rfl rfl ?_)
  refine WO.nil ?_
  refine WC.seq ?_
  refine WC.condD rfl (fun hlt hltb => ?_) (fun hlt hltb => ?_)
  · have hkR : k < R.length := by omega
    obtain ⟨ν, cv, ws, rfl, hν, hwl, hnc, htk, hat⟩ := hw.at enc4_len hR (by omega)
    have hwr := hat _ hkR
    have htk2 : (R.take (k + 1)).map RunE.l = (R.take k).map RunE.l ++ [R[k].l] := by rw [List.take_add_one, List.getElem?_eq_getElem hkR, List.map_append]; rfl
    generalize hr : R[k] = r at hwr htk2
    have hν1 := (hkp _ _ hν).1
    have hlk : ((R.take k).map RunE.l).length = k := by simp; omega
    refine WC.skip (WC.seq (WC.block (WC.seq (WC.region ?_))))
    refine cO (SV.indexAddr rfl rfl (by omega) ?_)
    refine cO ?_
    refine SV.loadMA (l := enc4 r) (by assumption) rfl hν1 rfl (fun j u hu => by have := hwr j u hu; rw [Nat.zero_add, Int.toNat_natCast]; exact this) ?_
    refine cO (SV.allocM (by assumption) (fun a4_2 s4_2 hf4_2 hne4_2 hn4_2 hM4_2 => ?_))
    refine WO.cons0 (SV.storeMA (by assumption) rfl rfl rfl rfl (by exact Hp.up_same) (by exact Nat.le_refl _) (fun s4_3 hn4_3 hM4_3 => ?_))
    refine WO.nil ?_
    rw [Hp.up_up] at hM4_3
    have hM4 : Models ro s4_3 (H1.up a4_2 (.row 0 [.int .i64 r.f, .int .i64 r.t, .int .i64 r.l, .int .i64 r.s])) := hM4_3
    clear hM4_3
    have hl4 : (H1.up a4_2 (.row 0 [.int .i64 r.f, .int .i64 r.t, .int .i64 r.l, .int .i64 r.s])) a3 = _ := Hp.up_ne (hne4_2 _ _ hl1) hl1
    have hb4 : (H1.up a4_2 (.row 0 [.int .i64 r.f, .int .i64 r.t, .int .i64 r.l, .int .i64 r.s])) a4_2 = some (.row 0 [.int .i64 r.f, .int .i64 r.t, .int .i64 r.l, .int .i64 r.s]) := Hp.up_same
    have hkp4 : ∀ ν o, H ν = some o → (H1.up a4_2 (.row 0 [.int .i64 r.f, .int .i64 r.t, .int .i64 r.l, .int .i64 r.s])) ν = some o ∧ ν ≠ a3 := fun ν o e => ⟨Hp.up_ne (hne4_2 _ _ (hkp ν o e).1) (hkp ν o e).1, (hkp ν o e).2⟩
    generalize H1.up a4_2 (.row 0 [.int .i64 r.f, .int .i64 r.t, .int .i64 r.l, .int .i64 r.s]) = H4 at hM4 hl4 hb4 hkp4
    refine WC.region ?_
    refine mvO ?_
    refine cO (SV.fieldAddr rfl ?_)
    refine cO (ldM ?_)
    refine cO (SV.buildSliceM (by assumption) rfl rfl (fun a5_3 s5_3 hf5_3 hne5_3 hn5_3 hM5_3 => ?_))
    refine cO ?_
    have hM5 : Models ro s5_3 (H4.up a5_3 (.row 1 [.int .i64 r.l])) := hM5_3
    refine SV.appendM (t := 23) (u := 23) (e := 3) (e' := 3) (sz := 1) (sz' := 1) (bytes := 8) (z := [.int .i64 0]) (n := k) (m := 1) (vs := ((R.take k).map RunE.l).map (.int .i64)) (xs := [.int .i64 r.l]) rfl hM5 rfl rfl (SlO.ofRow (Hp.up_ne (hne5_3 _ _ hl4) hl4) (by rw [List.length_map, hlk, Nat.mul_one]))
      (Src.row Hp.up_same rfl rfl (fun j v h => by rw [Nat.zero_add]; exact h)) rfl (by omega) (fun v8 s8 H8 hn8 hM8 hv8 hk8 hnew8 hex8 => ?_)
    obtain ⟨b3, rfl, hb3, hkp3⟩ := app_one hl4 hlk hne5_3 hk8 hnew8 hex8
    refine asO ?_
    refine WO.nil ?_
    refine WC.region ?_
    refine cO (adI ?_)
    refine mvO ?_
    refine WO.nil ?_
    refine ⟨rfl, (k + 1, b3), ⟨rfl, rfl, rfl, rfl, trivial⟩, ⟨by omega, by dsimp only; omega, H8, hM8, ?_, fun ν o e => ?_⟩, by dsimp only; omega⟩
    · dsimp only; rw [htk2]; exact hb3
    · obtain ⟨e1, e2⟩ := hkp4 ν o e
      exact hkp3 _ _ e1 e2
  · have hke : k = n := by omega
    have e : R.take k = R := by rw [hke, ← hR, List.take_length]
    rw [e] at hl1
    have hml : (R.map RunE.l).length = k := by rw [List.length_map, hke]; exact hR
    subst hke
    refine WC.exit (WC.seq ?_)
    refine WC.region ?_
    refine mvO ?_
    refine cO ?_
    refine SV.callM rfl rfl (order13_sp (L := R.map RunE.l) hX hM1 (SlO.ofRow hl1 (by rw [List.length_map, hml, Nat.mul_one])) hml hn) ?_
    rintro v s2 H2 hn2 hM2 ⟨a, rfl, ha, hkp2⟩
    refine asO ?_
    refine WO.nil ?_
    refine WC.ret ?_
    exact fin_one (e := .ret) (v := .slice _ _ _) rfl trivial rfl (by omega) hM2 ⟨a, rfl, ha, fun ν o e => hkp2 ν o (hkp ν o e).1⟩
end Go.Proofs.Ythkklpegjcnjoaa
