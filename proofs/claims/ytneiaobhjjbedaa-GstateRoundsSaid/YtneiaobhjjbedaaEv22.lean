/- A part of the proof that what the evaluator says of a piece of code, the model does: no condition but those that each theorem states. -/
import Derived.Test.YtneiaobhjjbedaaEv21
namespace Go.Ab

section
variable {P : Program} {B ro : Nat} {callF : CallE} {nt : Nat}

/-! ### Results, deferred calls, whole functions -/

def MdR (ρ : Ren) : FrameMode → FrameMode → Prop
  | .run, .run => True
  | .returning, .returning => True
  | .panicking ch, .panicking ch' => ChR ρ ch ch'
  | _, _ => False

theorem MdR.mono {ρ ρ' : Ren} (hl : ρ.le ρ') {u u' : FrameMode} (h : MdR ρ u u') : MdR ρ' u u' := by
  cases u <;> cases u' <;> first | exact h | exact ChR.mono hl h

theorem chR_dropWhile {ρ : Ren} : ∀ {l m : List PanicEntry}, ChR ρ l m → ChR ρ (l.dropWhile (!·.goexit)) (m.dropWhile (!·.goexit))
  | _, _, .nil => .nil
  | _, _, .cons (a := a) (b := b) h t => by
    simp only [List.dropWhile_cons, h.2.2]
    split
    · exact chR_dropWhile t
    · exact .cons h t

theorem MdR.settle {ρ : Ren} {u u' : FrameMode} (h : MdR ρ u u') : MdR ρ (settle u) (settle u') := by
  cases u with
  | run => cases u' <;> first | exact h | exact h.elim
  | returning => cases u' <;> first | exact h | exact h.elim
  | panicking ch =>
    cases u' with
    | run => exact h.elim
    | returning => exact h.elim
    | panicking ch' =>
      have h' : ChR ρ ch ch' := h
      cases h' with
      | nil => exact h
      | cons e t =>
        rename_i p p' l l'
        obtain ⟨v, rc, gx⟩ := p
        obtain ⟨v', rc', gx'⟩ := p'
        have hrc : rc = rc' := e.2.1
        subst hrc
        cases rc with
        | false => exact h
        | true =>
          simp only [Go.settle]
          have hd := chR_dropWhile t
          revert hd
          generalize l.dropWhile (!·.goexit) = x
          generalize l'.dropWhile (!·.goexit) = y
          intro hd
          cases hd with
          | nil => trivial
          | cons a b => exact L2.cons a b

theorem ChR.append {ρ : Ren} {a b c d : List PanicEntry} (h : ChR ρ a b) (k : ChR ρ c d) : ChR ρ (a ++ c) (b ++ d) := by
  induction h with
  | nil => exact k
  | cons e _ ih => exact .cons e ih

theorem MdR.raised {ρ : Ren} {u u' : FrameMode} {ch ch' : List PanicEntry} (h : MdR ρ u u') (k : ChR ρ ch ch') : MdR ρ (raised u ch) (raised u' ch') := by
  cases u <;> cases u' <;> first | exact h.elim | exact k | exact ChR.append k h

theorem resultsL_sim {ρ : Ren} {s : St} {w : World} {tm : T Value} {tmps : Array Value} (hr : Rel B ro ρ s.heap.get w) (ht : TmR ρ tm tmps) : ∀ (l : List ResultVar) (vs : List Value), resultsOf P s tm l = some vs →
    ∃ vs', VRs ρ vs vs' ∧ ∀ (f : ResultVar → Sem Value), (∀ u, f (.tmp u) = pure (tmps.getD u undef)) → (∀ a t, f (.cell a t) = (do loadVar t (← asAddr (tmps.getD a undef)))) → (l.mapM f).run P w = .ok vs' w
  | [], vs, h => by simp only [resultsOf] at h; cases h; exact ⟨[], .nil, fun f hf hc => by simp⟩
  | .tmp t :: l, vs, h => by
    simp only [resultsOf] at h
    split at h
    · rename_i r hr'
      cases h
      obtain ⟨vs', h2, h1⟩ := resultsL_sim hr ht l r hr'
      exact ⟨tmps.getD t undef :: vs', .cons (ht t) h2, fun f hf hc => by rw [List.mapM_cons, hf]; simp [h1 f hf hc]⟩
    · cases h
  | .cell a t :: l, vs, h => by
    simp only [resultsOf] at h
    split at h
    · rename_i ad had
      split at h
      · rename_i v r hv hr'
        cases h
        obtain ⟨vs', h2, h1⟩ := resultsL_sim hr ht l r hr'
        have hp := ht a
        unfold tmv at hp
        rw [had] at hp
        simp only at hp
        obtain ⟨hsp, i, hi, he⟩ := hp.ptr_inv
        rw [he] at hp
        obtain ⟨v', l1, l2⟩ := ldVar_sim hr (a' := ⟨i.b, i.r + ad.off, none⟩) hv hp
        refine ⟨v' :: vs', .cons l2 h2, fun f hf hc => ?_⟩
        rw [List.mapM_cons, hc, he]
        simp [asAddr, l1, h1 f hf hc]
      · cases h
    · cases h

theorem retOf_sim {ρ : Ren} {s : St} {w : World} {tm : T Value} {tmps : Array Value} {fn : Func} {r : Ret} (hr : Rel B ro ρ s.heap.get w) (ht : TmR ρ tm tmps) (h : retOf P fn tm s = some r) :
    ∃ v v', r = .ok v s ∧ (results fn tmps).run P w = .ok v' w ∧ VR ρ v v' := by
  have hres : ∀ vs, resultsOf P s tm fn.results.toList = some vs → ∃ vs', (results fn tmps).run P w = .ok (if h : vs'.toArray.size = 1 then vs'.toArray[0] else .tuple vs'.toArray) w ∧ VRs ρ vs vs' := by
    intro vs hvs
    obtain ⟨vs', h2, h1⟩ := resultsL_sim hr ht fn.results.toList vs hvs
    refine ⟨vs', ?_, h2⟩
    unfold results
    have e : fn.results = fn.results.toList.toArray := by simp
    rw [e, List.mapM_toArray]
    simp only [Sem.run_bind, Sem.run_map]
    rw [h1]
    · rfl
    · intro u; rfl
    · intro a t; rfl
  unfold retOf at h
  split at h
  · rename_i v hv
    cases h
    obtain ⟨vs', h1, h2⟩ := hres _ hv
    cases h2 with
    | cons a b =>
      cases b
      exact ⟨_, _, rfl, h1, a⟩
  · rename_i vs hne hv
    cases h
    obtain ⟨vs', h1, h2⟩ := hres _ hv
    refine ⟨_, _, rfl, h1, ?_⟩
    have hlen := h2.length
    rw [dif_neg]
    · exact VR.tuple_of h2
    · intro hsz
      have h1 : vs.length = 1 := by rw [hlen]; simpa using hsz
      obtain ⟨x, rfl⟩ := List.length_eq_one_iff.1 h1
      exact hne x rfl
  · cases h

/-- What is handed in for deferred calls is sound. -/
def DeferS (P : Program) (B ro : Nat) (deferF : DeferE) : Prop :=
  ∀ f args u s r dm, deferF f args u s = some (r, dm) → ∀ (ρ : Ren) (w : World) (args' : Array Value) (u' : FrameMode), Rel B ro ρ s.heap.get w → ro ≤ s.next → Wf s → VRs ρ args args'.toList → MdR ρ u u' → Fresh ρ s r.st →
    (∃ fn, P.funcs[f]? = some fn ∧ fn.name ≠ "runtime.NumGoroutine" ∧ fn.body.isSome = true) ∧
    CallsD P f args' u' w fun e u2 w' => ∃ ρ', Step B ro ρ s w ρ' r.st w' ∧ RetR ρ' r e ∧ MdR ρ' dm u2

theorem retOf_st {s : St} {tm : T Value} {fn : Func} {r : Ret} (h : retOf P fn tm s = some r) : r.st = s := by
  unfold retOf at h
  split at h <;> first | (cases h; rfl) | cases h

theorem leave_inv {deferF : DeferE} {fn : Func} {tm : T Value} {d : Deferred} {ds : List Deferred} {u : FrameMode} {s : St} {r : Ret} (h : leave P deferF fn tm (d :: ds) u s = some r) :
    u ≠ .run ∧ ∃ f cap, d.target = .fn (.func f) cap ∧ ∃ ret u1, deferF f (d.args.toList ++ cap.toList) u s = some (ret, u1) ∧ s.next ≤ ret.st.next ∧
      ((∃ v, ret = .ok v ret.st ∧ leave P deferF fn tm ds (settle u1) ret.st = some r) ∨ (∃ ch, ret = .pan ch ret.st ∧ leave P deferF fn tm ds (raised u1 ch) ret.st = some r)) := by
  cases u with
  | run => simp [leave] at h
  | returning =>
    refine ⟨by simp, ?_⟩
    simp only [leave] at h
    split at h
    · rename_i f cap heq
      split at h
      · cases h
      · rename_i v s' u' hd
        cases hb : Nat.ble s.next s'.next with
        | false => rw [hb] at h; cases h
        | true => rw [hb] at h; exact ⟨f, cap, heq, _, _, hd, Nat.le_of_ble_eq_true hb, .inl ⟨v, rfl, h⟩⟩
      · rename_i ch s' u' hd
        cases hb : Nat.ble s.next s'.next with
        | false => rw [hb] at h; cases h
        | true => rw [hb] at h; exact ⟨f, cap, heq, _, _, hd, Nat.le_of_ble_eq_true hb, .inr ⟨ch, rfl, h⟩⟩
    · cases h
  | panicking ch0 =>
    refine ⟨by simp, ?_⟩
    simp only [leave] at h
    split at h
    · rename_i f cap heq
      split at h
      · cases h
      · rename_i v s' u' hd
        cases hb : Nat.ble s.next s'.next with
        | false => rw [hb] at h; cases h
        | true => rw [hb] at h; exact ⟨f, cap, heq, _, _, hd, Nat.le_of_ble_eq_true hb, .inl ⟨v, rfl, h⟩⟩
      · rename_i ch s' u' hd
        cases hb : Nat.ble s.next s'.next with
        | false => rw [hb] at h; cases h
        | true => rw [hb] at h; exact ⟨f, cap, heq, _, _, hd, Nat.le_of_ble_eq_true hb, .inr ⟨ch, rfl, h⟩⟩
    · cases h

theorem leave_next {deferF : DeferE} {fn : Func} {tm : T Value} : ∀ (ds : List Deferred) (u : FrameMode) (s : St) (r : Ret), leave P deferF fn tm ds u s = some r → s.next ≤ r.st.next
  | [], .returning, s, r, h => by simp only [leave] at h; rw [retOf_st h]; exact Nat.le_refl _
  | [], .panicking ch, s, r, h => by simp only [leave] at h; cases h; exact Nat.le_refl _
  | [], .run, s, r, h => by simp [leave] at h
  | d :: ds, u, s, r, h => by
    obtain ⟨_, f, cap, _, ret, u1, _, hle, h1 | h1⟩ := leave_inv h
    · obtain ⟨v, _, h1⟩ := h1; exact Nat.le_trans hle (leave_next ds _ _ r h1)
    · obtain ⟨v, _, h1⟩ := h1; exact Nat.le_trans hle (leave_next ds _ _ r h1)

theorem leave_sim {deferF : DeferE} (hds : DeferS P B ro deferF) {fn : Func} {tm : T Value} {R : Ending → World → Prop} {tmps : Array Value} {r : Ret} :
    ∀ (ds : List Deferred) (u : FrameMode) (s : St), leave P deferF fn tm ds u s = some r → ∀ (ρ : Ren) (w : World) (ds' : List Deferred) (u' : FrameMode), Rel B ro ρ s.heap.get w → TmR ρ tm tmps → L2 (DefR ρ) ds ds' → MdR ρ u u' →
      ro ≤ s.next → Wf s → Fresh ρ s r.st → (∀ ρ' w' e, Step B ro ρ s w ρ' r.st w' → RetR ρ' r e → R e w') → Leaves P fn tmps R ds' u' w
  | [], u, s, h, ρ, w, ds', u', hr, ht, hds', hu, hro, hwf, hf, hR => by
    cases hds'
    cases u with
    | run => simp [leave] at h
    | returning =>
      simp only [leave] at h
      cases u' with
      | returning =>
        obtain ⟨v, v', e1, e2, e3⟩ := retOf_sim hr ht h
        subst e1
        exact ⟨v', e2, hR ρ w _ (Step.refl hr) e3⟩
      | _ => exact hu.elim
    | panicking ch =>
      simp only [leave] at h
      cases h
      cases u' with
      | panicking ch' => exact hR ρ w _ (Step.refl hr) hu
      | _ => exact hu.elim
  | d :: ds, u, s, h, ρ, w, ds', u', hr, ht, hds', hu, hro, hwf, hf, hR => by
    obtain ⟨hur, f, cap, htg, ret, u1, hd1, hle, hrest⟩ := leave_inv h
    have hu' : u' ≠ .run := by
      intro e; subst e
      cases u with
      | run => exact hur rfl
      | _ => exact hu.elim
    cases hds' with
    | cons hd htl =>
      rename_i d' dl'
      obtain ⟨⟨fnv, cap0, cap', t1, t2, t3⟩, t4⟩ := hd
      rw [htg] at t1
      cases t1
      obtain ⟨tg', ar'⟩ := d'
      simp only at t2 t4
      subst t2
      have hargs : VRs ρ (d.args.toList ++ cap.toList) (ar' ++ cap').toList := by
        rw [Array.toList_append]; exact L2.append t4 t3
      rcases hrest with ⟨v, e1, h'⟩ | ⟨ch, e1, h'⟩
      · have hn := leave_next _ _ _ _ h'
        obtain ⟨⟨fn1, f1, f2, f3⟩, hc⟩ := hds f _ u s _ u1 hd1 ρ w (ar' ++ cap') u' hr hro hwf hargs hu (hf.left hn)
        refine leaves_cons hu' (run_callFunc f1 f2 f3) (hc.mono fun e u2 w' ⟨ρ', q1, q2, q3⟩ => ?_)
        rw [e1] at q2
        cases e with
        | returned v' =>
          exact leave_sim hds ds (settle u1) ret.st h' ρ' w' dl' (settle u2) q1.rel (fun t => (ht t).mono q1.le) (htl.mono fun _ _ => DefR.mono q1.le) q3.settle (Nat.le_trans hro q1.next) (q1.wf hwf) (hf.right q1)
            fun ρ2 w2 e2 p1 p2 => hR ρ2 w2 e2 (q1.trans p1) p2
        | _ => exact q2.elim
      · have hn := leave_next _ _ _ _ h'
        obtain ⟨⟨fn1, f1, f2, f3⟩, hc⟩ := hds f _ u s _ u1 hd1 ρ w (ar' ++ cap') u' hr hro hwf hargs hu (hf.left hn)
        refine leaves_cons hu' (run_callFunc f1 f2 f3) (hc.mono fun e u2 w' ⟨ρ', q1, q2, q3⟩ => ?_)
        rw [e1] at q2
        cases e with
        | panicked ch' =>
          exact leave_sim hds ds (raised u1 ch) ret.st h' ρ' w' dl' (raised u2 ch') q1.rel (fun t => (ht t).mono q1.le) (htl.mono fun _ _ => DefR.mono q1.le) (q3.raised q2) (Nat.le_trans hro q1.next) (q1.wf hwf) (hf.right q1)
            fun ρ2 w2 e2 p1 p2 => hR ρ2 w2 e2 (q1.trans p1) p2
        | _ => exact q2.elim

end
end Go.Ab
