/- The pure statement of BidiBases: both ways of finding a text's base come to the same, for every list of codes. -/
import Derived.Test.YthkklpegjcnjoaaPBidiBasesx3
import Derived.Test.YthkklpegjcnjoaaTables
namespace Go.Proofs.Ythkklpegjcnjoaa.Pure
open Go.RowKit Go.Proofs.Ythkklpegjcnjoaa.PBidiBases Go.Proofs.YthkklpegjcnjoaaW.PrintWords Go.Proofs.YthkklpegjcnjoaaW.PrintLast Go.Proofs.YthkklpegjcnjoaaW.PrintMore
set_option linter.unusedVariables false
set_option linter.unusedSimpArgs false

/-- With rounds enough the answer is r. -/
def E {α : Type} (g : Nat → Option α) (r : α) : Prop := ∃ K, ∀ k, K ≤ k → g k = some r
theorem E.of {α : Type} {r : α} : E (fun _ => some r) r := ⟨0, fun _ _ => rfl⟩
theorem E.succ {α : Type} {g h : Nat → Option α} {r : α} (e : ∀ k, g (k + 1) = h k) (H : E h r) : E g r := by
  obtain ⟨K, hK⟩ := H
  refine ⟨K + 1, fun k hk => ?_⟩
  obtain ⟨m, rfl⟩ : ∃ m, k = m + 1 := ⟨k - 1, by omega⟩
  rw [e]; exact hK m (by omega)
theorem E.bind {α β : Type} {g : Nat → Option α} {r : α} {h : Nat → α → Option β} {s : β} (H : E g r) (H2 : E (fun k => h k r) s) : E (fun k => (g k).bind (h k)) s := by
  obtain ⟨K, hK⟩ := H
  obtain ⟨L, hL⟩ := H2
  exact ⟨K + L, fun k hk => by simp only [hK k (by omega), Option.bind_some]; exact hL k (by omega)⟩
theorem E.ex {α : Type} {g : Nat → Option α} {r : α} (H : E g r) : ∃ k, g k = some r := by
  obtain ⟨K, hK⟩ := H
  exact ⟨K, hK K (Nat.le_refl _)⟩

theorem w64 {n : Int} (h0 : -9223372036854775808 ≤ n) (h1 : n < 9223372036854775808) : wrap64 n = n := by
  unfold wrap64
  omega
theorem nat_one (i : Nat) : (i : Int) + 1 = ((i + 1 : Nat) : Int) := rfl
theorem rd_nat (l : List Int) (b : Nat) : rd l (b : Int) = l.getD b 0 := by simp [rd]
theorem set_mid (p q : List Int) (z x : Int) (n : Nat) (hn : n = p.length) : (p ++ z :: q).set n x = (p ++ [x]) ++ q := by
  subst hn
  induction p with
  | nil => rfl
  | cons a p ih => simp

noncomputable def cls (c : Int) : Int := (lookF c).2.1

theorem cls_def (c : Int) : (lookF c).2.1 = cls c := rfl

def op (c : Int) : Bool := decide (c = 19 ∨ c = 20 ∨ c = 21)

theorem opener_f (c : Int) : bidi_opener.f c = some (op c) := by
  unfold bidi_opener.f op
  split
  · rename_i h; simp [h]
  · split
    · rename_i h; simp [h]
    · rename_i h1 h2
      by_cases e : c = 21
      · simp [e]
      · simp [h1, h2, e]

theorem opens_f (c : Int) : serifref13_Opens.f c = some (op c) := by
  unfold serifref13_Opens.f op
  split
  · rename_i h; simp [h]
  · split
    · rename_i h; simp [h]
    · rename_i h1 h2
      by_cases e : c = 21
      · simp [e]
      · simp [h1, h2, e]

/-! ### The plain law: what closes an opener -/
/-- From place p on, n openers open: the place that closes the outermost; -1: none. -/
def mf : List Int → Nat → Nat → Int
  | [], _, _ => -1
  | c :: l, n, p => if c = 10 then -1 else if op c = true then mf l (n + 1) (p + 1) else if c = 22 then (if n ≤ 1 then (p : Int) else mf l (n - 1) (p + 1)) else mf l n (p + 1)

theorem mf_bound : ∀ (l : List Int) (n p : Nat), mf l n p = -1 ∨ ((p : Int) ≤ mf l n p ∧ mf l n p < p + l.length)
  | [], _, _ => .inl rfl
  | c :: l, n, p => by
    unfold mf
    have h1 := mf_bound l (n + 1) (p + 1)
    have h2 := mf_bound l (n - 1) (p + 1)
    have h3 := mf_bound l n (p + 1)
    simp only [List.length_cons]
    split
    · exact .inl rfl
    · split
      · omega
      · split
        · split
          · omega
          · omega
        · omega

/-- What the program's loop does with the rest of the classes. -/
def run : List Int → Nat → List Int → List Nat → List Int
  | [], _, out, _ => out
  | c :: l, p, out, st =>
    if op c = true then run l (p + 1) (out.set p (-1)) (p :: st)
    else if c = 10 then run l (p + 1) (out.set p (-1)) []
    else if c = 22 then
      (if st.isEmpty = true then run l (p + 1) (out.set p (-1)) [] else run l (p + 1) (((out.set p (-1)).set p ((st.headD 0 : Nat) : Int)).set (st.headD 0) (p : Int)) st.tail)
    else run l (p + 1) (out.set p (-1)) st

theorem op10 : op 10 = false := by decide
theorem op22 : op 22 = false := by decide

theorem getD_set_ne (l : List Int) (i j : Nat) (x : Int) (h : i ≠ j) : (l.set i x).getD j 0 = l.getD j 0 := by
  rw [List.getD_eq_getElem?_getD, List.getElem?_set_ne h, ← List.getD_eq_getElem?_getD]
theorem getD_set_self (l : List Int) (i : Nat) (x : Int) (h : i < l.length) : (l.set i x).getD i 0 = x := by
  rw [List.getD_eq_getElem?_getD, List.getElem?_set_self h]; rfl

/-- The stack's places are below p, each once, and hold -1. -/
def StOk (out : List Int) (p : Nat) (st : List Nat) : Prop := st.Nodup ∧ ∀ j ∈ st, j < p ∧ out.getD j 0 = -1

theorem StOk.set {out : List Int} {p : Nat} {st : List Nat} (h : StOk out p st) (x : Int) : StOk (out.set p x) (p + 1) st :=
  ⟨h.1, fun j hj => by
    have := h.2 j hj
    exact ⟨by omega, by rw [getD_set_ne _ _ _ _ (by omega)]; exact this.2⟩⟩

theorem run_ok : ∀ (l : List Int) (p : Nat) (out : List Int) (st : List Nat), p + l.length = out.length → StOk out p st →
    (run l p out st).length = out.length ∧ (∀ j, j < p → j ∉ st → (run l p out st).getD j 0 = out.getD j 0) ∧
    (∀ (d j : Nat), st[d]? = some j → (run l p out st).getD j 0 = mf l (d + 1) p) ∧
    (∀ i, i < l.length → op (l.getD i 0) = true → (run l p out st).getD (p + i) 0 = mf (l.drop (i + 1)) 1 (p + i + 1)) := by
  intro l
  induction l with
  | nil =>
    intro p out st hl hst
    refine ⟨rfl, fun _ _ _ => rfl, fun d j hj => ?_, fun i hi => by simp at hi⟩
    have := hst.2 j (List.mem_of_getElem? hj)
    simpa [run, mf] using this.2
  | cons c l ih =>
    intro p out st hl hst
    have hlen : ∀ x, (out.set p x).length = out.length := fun x => by simp
    have hp : p < out.length := by simp only [List.length_cons] at hl; omega
    have hl2 : p + 1 + l.length = out.length := by simp only [List.length_cons] at hl; omega
    -- what all ways have in common: the places of the rest
    have rest : ∀ (out2 : List Int) (st2 : List Nat), run (c :: l) p out st = run l (p + 1) out2 st2 → out2.length = out.length → StOk out2 (p + 1) st2 →
        (∀ i, i < l.length → op (l.getD i 0) = true → (run l (p + 1) out2 st2).getD (p + 1 + i) 0 = mf (l.drop (i + 1)) 1 (p + 1 + i + 1)) := fun out2 st2 _ h2 h3 => (ih (p + 1) out2 st2 (by omega) h3).2.2.2
    have fin : ∀ (out2 : List Int) (st2 : List Nat), run (c :: l) p out st = run l (p + 1) out2 st2 → out2.length = out.length → StOk out2 (p + 1) st2 →
        (∀ j, j < p → j ∉ st → j ∉ st2 ∧ out2.getD j 0 = out.getD j 0) →
        (∀ (d j : Nat), st[d]? = some j → (run l (p + 1) out2 st2).getD j 0 = mf (c :: l) (d + 1) p) →
        (op c = true → (run l (p + 1) out2 st2).getD p 0 = mf l 1 (p + 1)) →
        (run (c :: l) p out st).length = out.length ∧ (∀ j, j < p → j ∉ st → (run (c :: l) p out st).getD j 0 = out.getD j 0) ∧
        (∀ (d j : Nat), st[d]? = some j → (run (c :: l) p out st).getD j 0 = mf (c :: l) (d + 1) p) ∧
        (∀ i, i < (c :: l).length → op ((c :: l).getD i 0) = true → (run (c :: l) p out st).getD (p + i) 0 = mf ((c :: l).drop (i + 1)) 1 (p + i + 1)) := by
      intro out2 st2 he h2 h3 ha hb hc
      have I := ih (p + 1) out2 st2 (by omega) h3
      rw [he]
      refine ⟨by rw [I.1, h2], fun j hj hn => ?_, hb, fun i hi ho => ?_⟩
      · rw [I.2.1 j (by omega) (ha j hj hn).1]; exact (ha j hj hn).2
      · cases i with
        | zero => simpa using hc (by simpa using ho)
        | succ i =>
          have := I.2.2.2 i (by simpa using hi) (by simpa using ho)
          have e1 : p + (i + 1) = p + 1 + i := by omega
          rw [e1]
          simpa using this
    have hold : ∀ j, j ∈ st → j ≠ p := fun j hj => by have := (hst.2 j hj).1; omega
    by_cases h1 : op c = true
    · have he : run (c :: l) p out st = run l (p + 1) (out.set p (-1)) (p :: st) := by rw [run, if_pos h1]
      have hok : StOk (out.set p (-1)) (p + 1) (p :: st) := by
        refine ⟨List.nodup_cons.2 ⟨fun h => hold p h rfl, hst.1⟩, fun j hj => ?_⟩
        rcases List.mem_cons.1 hj with rfl | hj
        · exact ⟨by omega, getD_set_self _ _ _ hp⟩
        · exact (hst.set (-1)).2 j hj
      have I := ih (p + 1) _ _ (by rw [hlen]; exact hl2) hok
      refine fin _ _ he (hlen _) hok (fun j hj hn => ⟨fun h => ?_, getD_set_ne _ _ _ _ (by omega)⟩) (fun d j hj => ?_) (fun _ => I.2.2.1 0 p rfl)
      · rcases List.mem_cons.1 h with rfl | h
        · omega
        · exact hn h
      · have := I.2.2.1 (d + 1) j (by simpa using hj)
        rw [this, mf, if_neg (by intro e; subst e; rw [op10] at h1; cases h1), if_pos h1]
    · by_cases h2 : c = 10
      · have he : run (c :: l) p out st = run l (p + 1) (out.set p (-1)) [] := by rw [run, if_neg h1, if_pos h2]
        have hok : StOk (out.set p (-1)) (p + 1) [] := ⟨List.nodup_nil, fun j hj => by cases hj⟩
        have I := ih (p + 1) _ _ (by rw [hlen]; exact hl2) hok
        refine fin _ _ he (hlen _) hok (fun j hj hn => ⟨by simp, getD_set_ne _ _ _ _ (by omega)⟩) (fun d j hj => ?_) (fun h => absurd h h1)
        have hm := List.mem_of_getElem? hj
        rw [I.2.1 j (by have := (hst.2 j hm).1; omega) (by simp), getD_set_ne _ _ _ _ (fun e => hold j hm e.symm), (hst.2 j hm).2, mf, if_pos h2]
      · by_cases h3 : c = 22
        · cases st with
          | nil =>
            have he : run (c :: l) p out [] = run l (p + 1) (out.set p (-1)) [] := by rw [run, if_neg h1, if_neg h2, if_pos h3, if_pos (show ([] : List Nat).isEmpty = true from rfl)]
            have hok : StOk (out.set p (-1)) (p + 1) [] := ⟨List.nodup_nil, fun j hj => by cases hj⟩
            exact fin _ _ he (hlen _) hok (fun j hj hn => ⟨by simp, getD_set_ne _ _ _ _ (by omega)⟩) (fun d j hj => by simp at hj) (fun h => absurd h h1)
          | cons t st' =>
            have he : run (c :: l) p out (t :: st') = run l (p + 1) (((out.set p (-1)).set p (t : Int)).set t (p : Int)) st' := by rw [run, if_neg h1, if_neg h2, if_pos h3, if_neg (by simp)]; rfl
            have ht := hst.2 t (by simp)
            have hnd := List.nodup_cons.1 hst.1
            have hok : StOk (((out.set p (-1)).set p (t : Int)).set t (p : Int)) (p + 1) st' := by
              refine ⟨hnd.2, fun j hj => ?_⟩
              have hj2 := hst.2 j (List.mem_cons_of_mem _ hj)
              have hne : t ≠ j := fun e => hnd.1 (e ▸ hj)
              refine ⟨by omega, ?_⟩
              rw [getD_set_ne _ _ _ _ hne, getD_set_ne _ _ _ _ (by omega), getD_set_ne _ _ _ _ (by omega)]
              exact hj2.2
            have hl3 : (((out.set p (-1)).set p (t : Int)).set t (p : Int)).length = out.length := by simp
            have I := ih (p + 1) _ _ (by rw [hl3]; exact hl2) hok
            refine fin _ _ he hl3 hok (fun j hj hn => ⟨fun h => hn (List.mem_cons_of_mem _ h), ?_⟩) (fun d j hj => ?_) (fun h => absurd h h1)
            · rw [getD_set_ne _ _ _ _ (fun e => hn (by simp [e])), getD_set_ne _ _ _ _ (by omega), getD_set_ne _ _ _ _ (by omega)]
            · rw [mf, if_neg h2, if_neg h1, if_pos h3]
              cases d with
              | zero =>
                have e : t = j := by simpa using hj
                subst e
                rw [if_pos (by omega), I.2.1 t (by omega) hnd.1, getD_set_self _ _ _ (by simp; omega)]
              | succ d =>
                rw [if_neg (by omega), I.2.2.1 d j (by simpa using hj)]
                rfl
        · have he : run (c :: l) p out st = run l (p + 1) (out.set p (-1)) st := by rw [run, if_neg h1, if_neg h2, if_neg h3]
          have hok := hst.set (-1)
          have I := ih (p + 1) _ _ (by rw [hlen]; exact hl2) hok
          refine fin _ _ he (hlen _) hok (fun j hj hn => ⟨hn, getD_set_ne _ _ _ _ (by omega)⟩) (fun d j hj => ?_) (fun h => absurd h h1)
          rw [I.2.2.1 d j hj, mf, if_neg h2, if_neg h1, if_neg h3]

/-- The base from a place on; d: rounds enough. -/
def bsF (cs : List Int) : Nat → Nat → Int
  | 0, _ => 0
  | d + 1, i => if i < cs.length then (if cs.getD i 0 = 0 then 0 else if cs.getD i 0 = 1 ∨ cs.getD i 0 = 2 then 1 else if cs.getD i 0 = 10 then 0 else
      if op (cs.getD i 0) = true then (if mf (cs.drop (i + 1)) 1 (i + 1) < 0 then 0 else bsF cs d ((mf (cs.drop (i + 1)) 1 (i + 1)).toNat + 1)) else bsF cs d (i + 1)) else 0

/-! ### The two lists of classes -/
theorem map_take_succ (f : Int → Int) (l : List Int) (i : Nat) (hi : i < l.length) : (l.take (i + 1)).map f = (l.take i).map f ++ [f (l.getD i 0)] := by
  rw [List.take_add_one, List.map_append, List.getD_eq_getElem?_getD, List.getElem?_eq_getElem hi]
  rfl

theorem cl0 (l0 : List Int) (hb : l0.length < 17592186044416) : ∀ (d i : Nat), i + d = l0.length →
    E (fun k => bidi_classes.l0 k ((l0.take i).map cls ++ List.replicate d 0) l0 (l0.length : Int) (i : Int)) (l0.map cls) := by
  intro d
  induction d with
  | zero =>
    intro i hi
    have e : i = l0.length := by omega
    subst e
    rw [List.take_length, List.replicate_zero, List.append_nil]
    exact E.succ (h := fun _ => some _) (fun k => by simp only [bidi_classes.l0]; rw [if_neg (by omega)]) E.of
  | succ d ih =>
    intro i hi
    have hi2 : i < l0.length := by omega
    have hlk : ucd_Look.f (l0.getD i 0) = some (lookF (l0.getD i 0)) := rfl
    have hc : (lookF (l0.getD i 0)).2.1 = cls (l0.getD i 0) := rfl
    have hp : (l0.take (i + 1)).map cls = (l0.take i).map cls ++ [cls (l0.getD i 0)] := map_take_succ cls l0 i hi2
    have e : ((l0.take i).map cls ++ List.replicate (d + 1) (0 : Int)).set i (cls (l0.getD i 0)) = (l0.take (i + 1)).map cls ++ List.replicate d 0 := by
      rw [List.replicate_succ, set_mid _ _ _ _ _ (by simp; omega), hp]
    have hlen : ((l0.take i).map cls ++ List.replicate (d + 1) (0 : Int)).length = l0.length := by simp; omega
    exact E.succ (h := _) (fun k => by
      simp only [bidi_classes.l0]
      rw [if_pos (by omega), if_pos (by omega), if_pos (by omega), rd_nat, hlk]
      simp only [Option.bind_some, hc]
      rw [if_pos (by omega), Int.toNat_natCast, e, w64 (by omega) (by omega), nat_one]) (ih (i + 1) (by omega))

theorem classes_f (l0 : List Int) (hb : l0.length < 17592186044416) : E (fun k => bidi_classes.f k l0) (l0.map cls) := by
  have h := cl0 l0 hb l0.length 0 (by omega)
  unfold bidi_classes.f
  simp only [if_pos (show (0 : Int) ≤ (l0.length : Int) by omega), Int.toNat_natCast, if_pos (show l0.length ≤ 35184372088832 by omega)]
  simpa using h

theorem rcl0 (l0 : List Int) (hb : l0.length < 17592186044416) : ∀ (d i : Nat), i + d = l0.length →
    E (fun k => serifref13_Classes.l0 k ((l0.take i).map cls) l0 (l0.length : Int) (i : Int)) (l0.map cls) := by
  intro d
  induction d with
  | zero =>
    intro i hi
    have e : i = l0.length := by omega
    subst e
    rw [List.take_length]
    exact E.succ (h := fun _ => some _) (fun k => by simp only [serifref13_Classes.l0]; rw [if_neg (by omega)]) E.of
  | succ d ih =>
    intro i hi
    have hi2 : i < l0.length := by omega
    have hcf : serifref13_Class.f (l0.getD i 0) = some (cls (l0.getD i 0)) := by
      unfold serifref13_Class.f
      have : serifref12_Look.f (l0.getD i 0) = some (lookF (l0.getD i 0)) := congrArg some (look_same _)
      rw [this]
      simp only [Option.bind_some, cls_def]
    have hp : (l0.take (i + 1)).map cls = (l0.take i).map cls ++ [cls (l0.getD i 0)] := map_take_succ cls l0 i hi2
    have H := ih (i + 1) (by omega)
    rw [hp] at H
    exact E.succ (h := _) (fun k => by
      simp only [serifref13_Classes.l0]
      rw [if_pos (by omega), if_pos (by omega), if_pos (by omega), rd_nat, hcf]
      simp only [Option.bind_some]
      rw [if_pos (by simp; omega), w64 (by omega) (by omega), nat_one]) H

theorem rclasses_f (l0 : List Int) (hb : l0.length < 17592186044416) : E (fun k => serifref13_Classes.f k l0) (l0.map cls) := by
  unfold serifref13_Classes.f
  simpa using rcl0 l0 hb l0.length 0 (by omega)

/-! ### The program's matches -/
/-- The stack as the program has it: the newest last. -/
def stL (st : List Nat) : List Int := (st.map Int.ofNat).reverse

theorem stL_nil : stL [] = [] := rfl

theorem m0 (cs : List Int) (hb : cs.length < 17592186044416) (r : List Int) : ∀ (d i : Nat) (out : List Int) (st : List Nat), i + d = cs.length → out.length = cs.length → StOk out i st → st.length ≤ i →
    run (cs.drop i) i out st = r → E (fun k => bidi_matches.l0 k out (stL st) cs (cs.length : Int) (i : Int)) r := by
  intro d
  induction d with
  | zero =>
    intro i out st hi ho hst hsl hr
    rw [List.drop_of_length_le (by omega)] at hr
    simp only [run] at hr
    subst hr
    exact E.succ (h := fun _ => some _) (fun k => by simp only [bidi_matches.l0]; rw [if_neg (by omega)]) E.of
  | succ d ih =>
    intro i out st hi ho hst hsl hr
    have hi2 : i < cs.length := by omega
    have hd : cs.drop i = cs.getD i 0 :: cs.drop (i + 1) := by
      rw [List.getD_eq_getElem?_getD, List.getElem?_eq_getElem hi2]
      exact List.drop_eq_getElem_cons hi2
    rw [hd] at hr
    have hol : (out.set i (-1)).length = cs.length := by simpa using ho
    have hslen : (stL st).length = st.length := by simp [stL]
    by_cases h1 : op (cs.getD i 0) = true
    · rw [run, if_pos h1] at hr
      have hok : StOk (out.set i (-1)) (i + 1) (i :: st) := by
        refine ⟨List.nodup_cons.2 ⟨fun h => by have := (hst.2 i h).1; omega, hst.1⟩, fun j hj => ?_⟩
        rcases List.mem_cons.1 hj with rfl | hj
        · exact ⟨by omega, getD_set_self _ _ _ (by omega)⟩
        · exact (hst.set (-1)).2 j hj
      have H := ih (i + 1) _ (i :: st) (by omega) hol hok (by simp; omega) hr
      have e : stL (i :: st) = stL st ++ [(i : Int)] := by simp [stL]
      rw [e] at H
      exact E.succ (h := _) (fun k => by
        simp only [bidi_matches.l0]
        rw [if_pos (by omega), if_pos (by omega), if_pos (by omega), if_pos (by omega), rd_nat, opener_f]
        simp only [Option.bind_some, h1, if_true, Int.toNat_natCast]
        rw [if_pos (by omega), w64 (by omega) (by omega), nat_one]) H
    · have h1f : op (cs.getD i 0) = false := by simpa using h1
      rw [run, if_neg h1] at hr
      by_cases h2 : cs.getD i 0 = 10
      · rw [if_pos h2] at hr
        have H := ih (i + 1) _ [] (by omega) hol ⟨List.nodup_nil, fun j hj => by cases hj⟩ (by simp) hr
        rw [stL_nil] at H
        exact E.succ (h := _) (fun k => by
          simp only [bidi_matches.l0]
          rw [if_pos (by omega), if_pos (by omega), if_pos (by omega), if_pos (by omega), rd_nat, opener_f]
          simp only [Option.bind_some, h1f, if_neg (show ¬ (false = true) by decide), Int.toNat_natCast, if_pos h2]
          rw [w64 (by omega) (by omega), nat_one]) H
      · rw [if_neg h2] at hr
        by_cases h3 : cs.getD i 0 = 22
        · rw [if_pos h3] at hr
          cases st with
          | nil =>
            rw [if_pos (show ([] : List Nat).isEmpty = true from rfl)] at hr
            have H := ih (i + 1) _ [] (by omega) hol ⟨List.nodup_nil, fun j hj => by cases hj⟩ (by simp) hr
            exact E.succ (h := _) (fun k => by
              simp only [bidi_matches.l0]
              rw [if_pos (by omega), if_pos (by omega), if_pos (by omega), if_pos (by omega), rd_nat, opener_f]
              simp only [Option.bind_some, h1f, if_neg (show ¬ (false = true) by decide), Int.toNat_natCast, if_neg h2, if_pos h3]
              rw [if_neg (by simp [stL]), w64 (by omega) (by omega), nat_one]) H
          | cons t st' =>
            rw [if_neg (by simp)] at hr
            have hr2 : run (cs.drop (i + 1)) (i + 1) (((out.set i (-1)).set i (t : Int)).set t (i : Int)) st' = r := hr
            have ht := hst.2 t (by simp)
            have hnd := List.nodup_cons.1 hst.1
            have hok : StOk (((out.set i (-1)).set i (t : Int)).set t (i : Int)) (i + 1) st' := by
              refine ⟨hnd.2, fun j hj => ?_⟩
              have hj2 := hst.2 j (List.mem_cons_of_mem _ hj)
              have hne : t ≠ j := fun e => hnd.1 (e ▸ hj)
              refine ⟨by omega, ?_⟩
              rw [getD_set_ne _ _ _ _ hne, getD_set_ne _ _ _ _ (by omega), getD_set_ne _ _ _ _ (by omega)]
              exact hj2.2
            have H := ih (i + 1) _ st' (by omega) (by simpa using ho) hok (by simp at hsl; omega) hr2
            have es : stL (t :: st') = stL st' ++ [(t : Int)] := by simp [stL]
            have hl3 : (stL (t :: st')).length = st'.length + 1 := by simp [stL]
            have hlast : rd (stL (t :: st')) (st'.length : Int) = (t : Int) := by
              rw [rd_nat, es, List.getD_eq_getElem?_getD, List.getElem?_append_right (by simp [stL])]
              simp [stL]
            have htake : (stL (t :: st')).take st'.length = stL st' := by
              rw [es, List.take_append_of_le_length (by simp [stL]), List.take_of_length_le (by simp [stL])]
            have hw : wrap64 (((stL (t :: st')).length : Int) - 1) = (st'.length : Int) := by
              rw [hl3, w64 (by simp at hsl; omega) (by simp at hsl; omega)]; omega
            exact E.succ (h := _) (fun k => by
              simp only [bidi_matches.l0]
              rw [if_pos (by omega), if_pos (by omega), if_pos (by omega), if_pos (by omega), rd_nat, opener_f]
              simp only [Option.bind_some, h1f, if_neg (show ¬ (false = true) by decide), Int.toNat_natCast, if_neg h2, if_pos h3]
              rw [if_pos (by omega), hw, if_pos (by omega), if_pos (by omega), hlast, if_pos (by omega), if_pos (by omega), if_pos (by omega), Int.toNat_natCast, Int.toNat_natCast, htake, w64 (by omega) (by omega), nat_one]) H
        · rw [if_neg h3] at hr
          have H := ih (i + 1) _ st (by omega) hol (hst.set (-1)) (by omega) hr
          exact E.succ (h := _) (fun k => by
            simp only [bidi_matches.l0]
            rw [if_pos (by omega), if_pos (by omega), if_pos (by omega), if_pos (by omega), rd_nat, opener_f]
            simp only [Option.bind_some, h1f, if_neg (show ¬ (false = true) by decide), Int.toNat_natCast, if_neg h2, if_neg h3]
            rw [w64 (by omega) (by omega), nat_one]) H

/-- What closes the opener at i. -/
def mt (cs : List Int) (i : Nat) : Int := mf (cs.drop (i + 1)) 1 (i + 1)

theorem matches_f (cs : List Int) (hb : cs.length < 17592186044416) : ∃ m : List Int, E (fun k => bidi_matches.f k cs) m ∧ m.length = cs.length ∧ ∀ i, i < cs.length → op (cs.getD i 0) = true → m.getD i 0 = mt cs i := by
  have hr := run_ok cs 0 (List.replicate cs.length 0) [] (by simp) ⟨List.nodup_nil, fun j hj => by cases hj⟩
  have H := m0 cs hb _ cs.length 0 (List.replicate cs.length 0) [] (by omega) (by simp) ⟨List.nodup_nil, fun j hj => by cases hj⟩ (by simp) rfl
  refine ⟨run cs 0 (List.replicate cs.length 0) [], ?_, by rw [hr.1]; simp, fun i hi ho => ?_⟩
  · unfold bidi_matches.f
    simp only [if_pos (show (0 : Int) ≤ (cs.length : Int) by omega), Int.toNat_natCast, if_pos (show cs.length ≤ 35184372088832 by omega)]
    simpa [stL] using H
  · have := hr.2.2.2 i hi ho
    simpa [mt] using this

/-! ### The program's base -/
theorem b0 (cs m : List Int) (hb : cs.length < 17592186044416) (hm : m.length = cs.length) (hmt : ∀ i, i < cs.length → op (cs.getD i 0) = true → m.getD i 0 = mt cs i) :
    ∀ (d i : Nat), cs.length ≤ i + d → i ≤ cs.length → E (fun k => bidi_base.l0 k cs m (cs.length : Int) (i : Int)) (bsF cs d i) := by
  intro d
  induction d with
  | zero =>
    intro i h1 h2
    exact E.succ (h := fun _ => some 0) (fun k => by simp only [bidi_base.l0]; rw [if_neg (by omega)]) E.of
  | succ d ih =>
    intro i h1 h2
    rw [bsF]
    by_cases hi : i < cs.length
    · rw [if_pos hi]
      have hmi := hmt i hi
      have ihn := ih (i + 1) (by omega) (by omega)
      have j1 : ∀ (b : Bool), (b = true ↔ (cs.getD i 0 = 1 ∨ cs.getD i 0 = 2)) → E (fun k => bidi_base.j1 k cs m (cs.length : Int) (i : Int) (cs.getD i 0) b)
          (if cs.getD i 0 = 1 ∨ cs.getD i 0 = 2 then 1 else if cs.getD i 0 = 10 then 0 else if op (cs.getD i 0) = true then (if mf (cs.drop (i + 1)) 1 (i + 1) < 0 then 0 else bsF cs d ((mf (cs.drop (i + 1)) 1 (i + 1)).toNat + 1)) else bsF cs d (i + 1)) := by
        intro b hbb
        by_cases e1 : cs.getD i 0 = 1 ∨ cs.getD i 0 = 2
        · rw [if_pos e1]
          exact E.succ (h := fun _ => some 1) (fun k => by simp only [bidi_base.j1]; rw [if_pos (hbb.2 e1)]) E.of
        · rw [if_neg e1]
          have hbf : ¬ b = true := fun h => e1 (hbb.1 h)
          by_cases e2 : cs.getD i 0 = 10
          · rw [if_pos e2]
            exact E.succ (h := fun _ => some 0) (fun k => by simp only [bidi_base.j1]; rw [if_neg hbf, if_pos e2]) E.of
          · rw [if_neg e2]
            by_cases e3 : op (cs.getD i 0) = true
            · rw [if_pos e3]
              have hmv := hmi e3
              have hbd := mf_bound (cs.drop (i + 1)) 1 (i + 1)
              rw [List.length_drop] at hbd
              unfold mt at hmv
              by_cases e4 : mf (cs.drop (i + 1)) 1 (i + 1) < 0
              · rw [if_pos e4]
                exact E.succ (h := fun _ => some 0) (fun k => by
                  simp only [bidi_base.j1]
                  rw [if_neg hbf, if_neg e2, opener_f]
                  simp only [Option.bind_some, e3, if_true]
                  rw [if_pos (by omega), if_pos (by omega), rd_nat, hmv, if_pos e4]) E.of
              · rw [if_neg e4]
                obtain ⟨q, hq⟩ : ∃ q : Nat, mf (cs.drop (i + 1)) 1 (i + 1) = (q : Int) := ⟨(mf (cs.drop (i + 1)) 1 (i + 1)).toNat, by omega⟩
                rw [hq] at hmv hbd e4 ⊢
                rw [Int.toNat_natCast]
                exact E.succ (h := _) (fun k => by
                  simp only [bidi_base.j1]
                  rw [if_neg hbf, if_neg e2, opener_f]
                  simp only [Option.bind_some, e3, if_true]
                  rw [if_pos (by omega), if_pos (by omega), rd_nat, hmv, if_neg e4, w64 (by omega) (by omega), nat_one]) (ih (q + 1) (by omega) (by omega))
            · rw [if_neg e3]
              have e3f : op (cs.getD i 0) = false := by simpa using e3
              exact E.succ (h := _) (fun k => by
                simp only [bidi_base.j1]
                rw [if_neg hbf, if_neg e2, opener_f]
                simp only [Option.bind_some, e3f, if_neg (show ¬ (false = true) by decide)]
                rw [w64 (by omega) (by omega), nat_one]) ihn
      by_cases e0 : cs.getD i 0 = 0
      · rw [if_pos e0]
        exact E.succ (h := fun _ => some 0) (fun k => by
          simp only [bidi_base.l0]
          rw [if_pos (by omega), if_pos (by omega), if_pos (by omega), rd_nat, if_pos e0]) E.of
      · rw [if_neg e0]
        by_cases e1 : cs.getD i 0 = 1
        · refine E.succ (h := _) (fun k => by
            simp only [bidi_base.l0]
            rw [if_pos (by omega), if_pos (by omega), if_pos (by omega), rd_nat, if_neg e0, if_pos e1]) (j1 true ⟨fun _ => .inl e1, fun _ => rfl⟩)
        · refine E.succ (h := _) (fun k => by
            simp only [bidi_base.l0]
            rw [if_pos (by omega), if_pos (by omega), if_pos (by omega), rd_nat, if_neg e0, if_neg e1]) (j1 (cs.getD i 0 == 2) ⟨fun h => .inr (beq_iff_eq.1 h), fun h => beq_iff_eq.2 (h.resolve_left e1)⟩)
    · rw [if_neg hi]
      exact E.succ (h := fun _ => some 0) (fun k => by simp only [bidi_base.l0]; rw [if_neg (by omega)]) E.of

/-! ### The document's base -/
theorem mr (cs : List Int) (hb : cs.length < 17592186044416) : ∀ (d p n : Nat), p + d = cs.length → 1 ≤ n → n ≤ p → E (fun k => serifref13_Match.l0 k cs (n : Int) (p : Int)) (mf (cs.drop p) n p) := by
  intro d
  induction d with
  | zero =>
    intro p n hp h1 h2
    rw [List.drop_of_length_le (by omega)]
    refine E.succ (h := fun k => serifref13_Match.j1 k cs (n : Int) (p : Int) false) (fun k => by simp only [serifref13_Match.l0]; rw [if_neg (by omega)]) ?_
    exact E.succ (h := fun _ => some (-1)) (fun k => by simp only [serifref13_Match.j1]; rw [if_neg (by simp)]) E.of
  | succ d ih =>
    intro p n hp h1 h2
    have hp2 : p < cs.length := by omega
    have hd : cs.drop p = cs.getD p 0 :: cs.drop (p + 1) := by
      rw [List.getD_eq_getElem?_getD, List.getElem?_eq_getElem hp2]
      exact List.drop_eq_getElem_cons hp2
    rw [hd, mf]
    refine E.succ (h := fun k => serifref13_Match.j1 k cs (n : Int) (p : Int) (cs.getD p 0 != 10)) (fun k => by simp only [serifref13_Match.l0]; rw [if_pos (by omega), if_pos (by omega), rd_nat]) ?_
    by_cases e1 : cs.getD p 0 = 10
    · rw [if_pos e1]
      exact E.succ (h := fun _ => some (-1)) (fun k => by simp only [serifref13_Match.j1]; rw [if_neg (by rw [e1]; decide)]) E.of
    · rw [if_neg e1]
      have hne : (cs.getD p 0 != 10) = true := by simpa using e1
      by_cases e2 : op (cs.getD p 0) = true
      · rw [if_pos e2]
        have e22 : cs.getD p 0 ≠ 22 := fun e => by rw [e] at e2; exact absurd e2 (by decide)
        refine E.succ (h := fun k => serifref13_Match.j2 k cs ((n + 1 : Nat) : Int) (p : Int)) (fun k => by
          simp only [serifref13_Match.j1]
          rw [if_pos hne, if_pos (by omega), if_pos (by omega), rd_nat, opens_f]
          simp only [Option.bind_some, e2, if_true]
          rw [w64 (by omega) (by omega), nat_one]) ?_
        exact E.succ (h := _) (fun k => by
          simp only [serifref13_Match.j2]
          rw [if_pos (by omega), if_pos (by omega), rd_nat, if_neg e22, w64 (by omega) (by omega), nat_one p]) (ih (p + 1) (n + 1) (by omega) (by omega) (by omega))
      · rw [if_neg e2]
        have e2f : op (cs.getD p 0) = false := by simpa using e2
        refine E.succ (h := fun k => serifref13_Match.j2 k cs (n : Int) (p : Int)) (fun k => by
          simp only [serifref13_Match.j1]
          rw [if_pos hne, if_pos (by omega), if_pos (by omega), rd_nat, opens_f]
          simp only [Option.bind_some, e2f, if_neg (show ¬ (false = true) by decide)]) ?_
        by_cases e3 : cs.getD p 0 = 22
        · rw [if_pos e3]
          by_cases e4 : n ≤ 1
          · rw [if_pos e4]
            exact E.succ (h := fun _ => some _) (fun k => by
              simp only [serifref13_Match.j2]
              rw [if_pos (by omega), if_pos (by omega), rd_nat, if_pos e3, w64 (n := (n : Int) - 1) (by omega) (by omega), if_pos (by omega)]) E.of
          · rw [if_neg e4]
            have en : (n : Int) - 1 = ((n - 1 : Nat) : Int) := by omega
            exact E.succ (h := _) (fun k => by
              simp only [serifref13_Match.j2]
              rw [if_pos (by omega), if_pos (by omega), rd_nat, if_pos e3, w64 (n := (n : Int) - 1) (by omega) (by omega), if_neg (by omega), w64 (by omega) (by omega), nat_one p, en]) (ih (p + 1) (n - 1) (by omega) (by omega) (by omega))
        · rw [if_neg e3]
          exact E.succ (h := _) (fun k => by
            simp only [serifref13_Match.j2]
            rw [if_pos (by omega), if_pos (by omega), rd_nat, if_neg e3, w64 (by omega) (by omega), nat_one p]) (ih (p + 1) n (by omega) h1 (by omega))

theorem match_f (cs : List Int) (hb : cs.length < 17592186044416) (i : Nat) (hi : i < cs.length) : E (fun k => serifref13_Match.f k cs (i : Int)) (mf (cs.drop (i + 1)) 1 (i + 1)) := by
  unfold serifref13_Match.f
  rw [w64 (by omega) (by omega), nat_one]
  exact mr cs hb (cs.length - (i + 1)) (i + 1) 1 (by omega) (by omega) (by omega)

theorem fl (cs : List Int) (hb : cs.length < 17592186044416) : ∀ (d i : Nat), cs.length ≤ i + d → i ≤ cs.length → E (fun k => serifref13_FirstLevel.l0 k cs (cs.length : Int) (i : Int)) (bsF cs d i) := by
  intro d
  induction d with
  | zero =>
    intro i h1 h2
    refine E.succ (h := fun k => serifref13_FirstLevel.j1 k cs (cs.length : Int) (i : Int) false) (fun k => by simp only [serifref13_FirstLevel.l0]; rw [if_neg (by omega)]) ?_
    exact E.succ (h := fun _ => some 0) (fun k => by simp only [serifref13_FirstLevel.j1]; rw [if_neg (by simp)]) E.of
  | succ d ih =>
    intro i h1 h2
    rw [bsF]
    by_cases hi : i < cs.length
    · rw [if_pos hi]
      have ihn := ih (i + 1) (by omega) (by omega)
      have e10 : ∀ x : Int, x = cs.getD i 0 → (x = 0 ∨ x = 1 ∨ x = 2 ∨ op x = true) → (x != 10) = true := by
        intro x _ hx
        rcases hx with rfl | rfl | rfl | hx
        · decide
        · decide
        · decide
        · by_cases e : x = 10
          · rw [e] at hx; exact absurd hx (by decide)
          · simpa using e
      refine E.succ (h := fun k => serifref13_FirstLevel.j1 k cs (cs.length : Int) (i : Int) (cs.getD i 0 != 10)) (fun k => by
        simp only [serifref13_FirstLevel.l0]
        rw [if_pos (by omega), if_pos (by omega), if_pos (by omega), rd_nat]) ?_
      by_cases e2 : cs.getD i 0 = 10
      · rw [if_neg (by omega), if_neg (by omega), if_pos e2]
        exact E.succ (h := fun _ => some 0) (fun k => by simp only [serifref13_FirstLevel.j1]; rw [if_neg (by rw [e2]; decide)]) E.of
      · have hne : (cs.getD i 0 != 10) = true := by simpa using e2
        rw [if_neg e2]
        by_cases e0 : cs.getD i 0 = 0
        · rw [if_pos e0]
          exact E.succ (h := fun _ => some 0) (fun k => by
            simp only [serifref13_FirstLevel.j1]
            rw [if_pos hne, if_pos (by omega), if_pos (by omega), rd_nat, if_pos e0]) E.of
        · rw [if_neg e0]
          have j2 : ∀ (b : Bool), (b = true ↔ (cs.getD i 0 = 1 ∨ cs.getD i 0 = 2)) → E (fun k => serifref13_FirstLevel.j2 k cs (cs.length : Int) (i : Int) b)
              (if cs.getD i 0 = 1 ∨ cs.getD i 0 = 2 then 1 else if op (cs.getD i 0) = true then (if mf (cs.drop (i + 1)) 1 (i + 1) < 0 then 0 else bsF cs d ((mf (cs.drop (i + 1)) 1 (i + 1)).toNat + 1)) else bsF cs d (i + 1)) := by
            intro b hbb
            by_cases e1 : cs.getD i 0 = 1 ∨ cs.getD i 0 = 2
            · rw [if_pos e1]
              exact E.succ (h := fun _ => some 1) (fun k => by simp only [serifref13_FirstLevel.j2]; rw [if_pos (hbb.2 e1)]) E.of
            · rw [if_neg e1]
              have hbf : ¬ b = true := fun h => e1 (hbb.1 h)
              by_cases e3 : op (cs.getD i 0) = true
              · rw [if_pos e3]
                have hbd := mf_bound (cs.drop (i + 1)) 1 (i + 1)
                rw [List.length_drop] at hbd
                refine E.succ (h := fun k => (serifref13_Match.f k cs (i : Int)).bind fun t => if t < 0 then some 0 else serifref13_FirstLevel.l0 k cs (cs.length : Int) (wrap64 (t + 1))) (fun k => by
                  simp only [serifref13_FirstLevel.j2]
                  rw [if_neg hbf, if_pos (by omega), if_pos (by omega), rd_nat, opens_f]
                  simp only [Option.bind_some, e3, if_true]) ?_
                refine E.bind (match_f cs hb i hi) ?_
                by_cases e4 : mf (cs.drop (i + 1)) 1 (i + 1) < 0
                · simp only [if_pos e4]
                  exact E.of
                · simp only [if_neg e4]
                  obtain ⟨q, hq⟩ : ∃ q : Nat, mf (cs.drop (i + 1)) 1 (i + 1) = (q : Int) := ⟨(mf (cs.drop (i + 1)) 1 (i + 1)).toNat, by omega⟩
                  rw [hq] at hbd e4 ⊢
                  rw [Int.toNat_natCast, w64 (by omega) (by omega), nat_one]
                  exact ih (q + 1) (by omega) (by omega)
              · rw [if_neg e3]
                have e3f : op (cs.getD i 0) = false := by simpa using e3
                exact E.succ (h := _) (fun k => by
                  simp only [serifref13_FirstLevel.j2]
                  rw [if_neg hbf, if_pos (by omega), if_pos (by omega), rd_nat, opens_f]
                  simp only [Option.bind_some, e3f, if_neg (show ¬ (false = true) by decide)]
                  rw [w64 (by omega) (by omega), nat_one]) ihn
          by_cases e1 : cs.getD i 0 = 1
          · exact E.succ (h := _) (fun k => by
              simp only [serifref13_FirstLevel.j1]
              rw [if_pos hne, if_pos (by omega), if_pos (by omega), rd_nat, if_neg e0, if_pos e1]) (j2 true ⟨fun _ => .inl e1, fun _ => rfl⟩)
          · exact E.succ (h := _) (fun k => by
              simp only [serifref13_FirstLevel.j1]
              rw [if_pos hne, if_pos (by omega), if_pos (by omega), rd_nat, if_neg e0, if_neg e1]) (j2 (cs.getD i 0 == 2) ⟨fun h => .inr (beq_iff_eq.1 h), fun h => beq_iff_eq.2 (h.resolve_left e1)⟩)
    · rw [if_neg hi]
      refine E.succ (h := fun k => serifref13_FirstLevel.j1 k cs (cs.length : Int) (i : Int) false) (fun k => by simp only [serifref13_FirstLevel.l0]; rw [if_neg (by omega)]) ?_
      exact E.succ (h := fun _ => some 0) (fun k => by simp only [serifref13_FirstLevel.j1]; rw [if_neg (by simp)]) E.of

theorem BidiBases : seriflaw13_BidiBases.Pure := by
  intro l0 _ hb _
  have hn : l0.length < 17592186044416 := by omega
  have hc := classes_f l0 hn
  have hr := rclasses_f l0 hn
  have hcl : (l0.map cls).length = l0.length := by simp
  generalize l0.map cls = cs at hc hr hcl
  obtain ⟨m, hm, hml, hmt⟩ := matches_f cs (by omega)
  have hbs := b0 cs m (by omega) hml hmt cs.length 0 (by omega) (by omega)
  have hfl := fl cs (by omega) cs.length 0 (by omega) (by omega)
  have h1 : E (fun k => bidi_Base.f k l0) (bsF cs cs.length 0) := by
    unfold bidi_Base.f
    refine E.bind hc (E.bind hm (E.bind (r := bsF cs cs.length 0) ?_ E.of))
    unfold bidi_base.f
    exact hbs
  have h2 : E (fun k => serifref13_Base.f k l0) (bsF cs cs.length 0) := by
    unfold serifref13_Base.f
    refine E.bind hr (E.bind (r := bsF cs cs.length 0) ?_ E.of)
    unfold serifref13_FirstLevel.f
    exact hfl
  refine E.ex (r := true) ?_
  unfold seriflaw13_BidiBases.f
  simp only [seriflaw13_bidiAlive.f, Option.bind_some, if_true, List.nil_append, List.length_nil, Nat.zero_add, if_pos hn]
  refine E.bind h1 (E.bind h2 ?_)
  simp only [beq_self_eq_true]
  exact E.of

end Go.Proofs.Ythkklpegjcnjoaa.Pure
