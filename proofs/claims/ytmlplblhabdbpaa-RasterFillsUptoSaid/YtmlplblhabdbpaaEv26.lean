/- A run in pieces says the same as a whole one: no condition but that each piece is right. -/
import Derived.Test.YtmlplblhabdbpaaEvC
import Derived.Test.YtmlplblhabdbpaaEv25
namespace Go.Ab

theorem eqT_sound {α : Type} {eqx : α → α → Bool} (hx : ∀ a b, eqx a b = true → a = b) : ∀ (a b : T α), eqT eqx a b = true → a = b := by
  intro a
  induction a with
  | leaf =>
    intro b h
    cases b with
    | leaf => rfl
    | node l v r => cases h
  | node l v r hl hr =>
    intro b h
    cases b with
    | leaf => cases h
    | node l' v' r' =>
      have h' : (bif eqO eqx v v' then bif eqT eqx l l' then eqT eqx r r' else false else false) = true := h
      cases h1 : eqO eqx v v' with
      | false => rw [h1] at h'; cases h'
      | true =>
        rw [h1] at h'
        cases h2 : eqT eqx l l' with
        | false => rw [h2] at h'; cases h'
        | true =>
          rw [h2] at h'
          have h3 : eqT eqx r r' = true := h'
          rw [hl _ h2, hr _ h3]
          have : v = v' := by
            cases v <;> cases v' <;> first | rfl | (cases h1; done) | (exact congrArg some (hx _ _ h1))
          rw [this]

theorem cond_and {a b : Bool} (h : (bif a then b else false) = true) : a = true ∧ b = true := by
  cases a with
  | false => cases h
  | true => exact ⟨rfl, h⟩

theorem eqVs_sound {l m : List Value} (h : eqVs l m = true) : l = m := sameVs_sound (sameV_sound 6) l m h

theorem eqBlk_sound {x y : Blk} (h : eqBlk x y = true) : x = y := by
  unfold eqBlk at h
  obtain ⟨h1, h⟩ := cond_and h
  obtain ⟨h2, h⟩ := cond_and h
  obtain ⟨h3, h⟩ := cond_and h
  obtain ⟨h4, h⟩ := cond_and h
  obtain ⟨h5, h⟩ := cond_and h
  obtain ⟨h6, h⟩ := cond_and h
  obtain ⟨h7, h⟩ := cond_and h
  have h8 := eqT_sound (sameV_sound 6) _ _ h
  obtain ⟨c, n, z, e, o, es, st, d⟩ := x
  obtain ⟨c', n', z', e', o', es', st', d'⟩ := y
  simp only [beq_iff_eq] at h3 h5 h6
  simp only at h1 h2 h4 h7 h8
  cases Nat.eq_of_beq_eq_true h1
  cases Nat.eq_of_beq_eq_true h2
  cases Nat.eq_of_beq_eq_true h4
  subst h3 h5 h6
  cases eqVs_sound h7
  subst h8
  rfl

theorem eqMEs_sound : ∀ {l m : List MapEntry}, eqMEs l m = true → l = m
  | [], [], _ => rfl
  | [], _ :: _, h => by cases h
  | _ :: _, [], h => by cases h
  | a :: l, b :: m, h => by
    simp only [eqMEs] at h
    obtain ⟨h1, h⟩ := cond_and h
    obtain ⟨h2, h⟩ := cond_and h
    obtain ⟨h3, h⟩ := cond_and h
    rw [eqMEs_sound h]
    obtain ⟨k, v, b1⟩ := a
    obtain ⟨k', v', b2⟩ := b
    cases Nat.eq_of_beq_eq_true h1
    cases sameV_sound 6 _ _ h2
    cases sameV_sound 6 _ _ h3
    rfl

theorem eqNs_sound : ∀ {l m : List Nat}, eqNs l m = true → l = m
  | [], [], _ => rfl
  | [], _ :: _, h => by cases h
  | _ :: _, [], h => by cases h
  | a :: l, b :: m, h => by
    simp only [eqNs] at h
    obtain ⟨h1, h⟩ := cond_and h
    rw [eqNs_sound h, Nat.eq_of_beq_eq_true h1]

theorem eqON_sound {a b : Option Nat} (h : eqON a b = true) : a = b := by
  cases a <;> cases b <;> first | rfl | (cases h; done) | exact congrArg some (Nat.eq_of_beq_eq_true h)

theorem eqObj_sound {a b : AObj} (h : eqObj a b = true) : a = b := by
  cases a <;> cases b <;> first | (cases h; done) | skip
  · rw [eqBlk_sound h]
  · simp only [eqObj] at h
    obtain ⟨h1, h⟩ := cond_and h
    rw [Nat.eq_of_beq_eq_true h1, eqMEs_sound h]
  · simp only [eqObj] at h
    obtain ⟨h1, h⟩ := cond_and h
    rw [Nat.eq_of_beq_eq_true h1, bytes_ext (beqBytes_sound h)]
  · simp only [eqObj] at h
    obtain ⟨h1, h⟩ := cond_and h
    obtain ⟨h2, h⟩ := cond_and h
    obtain ⟨h3, h⟩ := cond_and h
    rw [eqON_sound h1, Nat.eq_of_beq_eq_true h2, Nat.eq_of_beq_eq_true h3, eqNs_sound h]

theorem eqSt_sound {s s' : St} (h : eqSt s s' = true) : s = s' := by
  unfold eqSt at h
  obtain ⟨h1, h⟩ := cond_and h
  have h2 := eqT_sound (fun _ _ => eqObj_sound) _ _ h
  obtain ⟨a, b⟩ := s
  obtain ⟨c, d⟩ := s'
  simp only at h1 h2
  rw [h2, Nat.eq_of_beq_eq_true h1]

/-- What 'CallS' says, at one call. -/
def PointS (P : Program) (ro : Nat) (f : FuncId) (args : List Value) (s : St) (r : Ret) : Prop :=
  ∀ (B : Nat) (ρ : Ren) (w : World) (args' : Array Value), Rel B ro ρ s.heap.get w → ro ≤ s.next → Wf s → VRs ρ args args'.toList → Fresh ρ s r.st →
    (∃ fn, P.funcs[f]? = some fn ∧ fn.name ≠ "runtime.NumGoroutine" ∧ fn.body.isSome = true) ∧
    Calls P f args' w fun e w' => ∃ ρ', Step B ro ρ s w ρ' r.st w' ∧ RetR ρ' r e

def Ent.Ok (P : Program) (ro : Nat) (e : Ent) : Prop := PointS P ro e.f e.args e.s (.ok e.v e.s')

theorem findEnt_ok {P : Program} {ro : Nat} : ∀ (M : List Ent), (∀ e ∈ M, e.Ok P ro) → ∀ f args s r, findEnt M f args s = some r → PointS P ro f args s r
  | [], _, _, _, _, _, h => by cases h
  | e :: l, hM, f, args, s, r, h => by
    have ih := findEnt_ok l (fun e he => hM e (List.mem_cons_of_mem _ he)) f args s r
    simp only [findEnt] at h
    cases h1 : Nat.beq e.f f with
    | false => rw [h1] at h; exact ih h
    | true =>
      cases h2 : Nat.beq e.s.next s.next with
      | false => rw [h1, h2] at h; exact ih h
      | true =>
        cases h3 : eqVs e.args args with
        | false => rw [h1, h2, h3] at h; exact ih h
        | true =>
          cases h4 : eqSt e.s s with
          | false => rw [h1, h2, h3, h4] at h; exact ih h
          | true =>
            rw [h1, h2, h3, h4] at h
            have := hM e List.mem_cons_self
            cases h
            rw [← Nat.eq_of_beq_eq_true h1, ← eqVs_sound h3, ← eqSt_sound h4]
            exact this

section
variable {fns : FuncId → Option Func} {P : Program} {ro B : Nat}

theorem layer_sim (hfns : ∀ f fn, fns f = some fn → P.funcs[f]? = some fn ∧ fn.name ≠ "runtime.NumGoroutine") {callF : CallE} (ih : CallS P B ro callF) (k : Nat) : CallS P B ro (layer fns P ro callF k) :=
  fun f args s r h ρ w args' hr hro hwf hargs hf => by
    have hds := evalD_sim hfns ih k
    unfold layer at h
    split at h
    · rename_i fn hfn
      split at h
      · rename_i c hb
        cases hble : Nat.ble args.length fn.ntmps with
        | false => rw [hble] at h; cases h
        | true =>
          rw [hble] at h
          simp only [cond_true, T.setsK_eq] at h
          obtain ⟨p1, p2⟩ := hfns f fn hfn
          refine ⟨⟨fn, p1, p2, by rw [hb]; rfl⟩, calls_of_wp_defers p1 hb ?_⟩
          split at h
          · rename_i o he
            have hfin : ∃ u, (∀ ρ e', ExR ρ o.e e' → ∃ u', MdR ρ u u' ∧ ((e' = .normal ∧ u' = .returning) ∨ (e' = .ret ∧ u' = .returning) ∨ ∃ ch', e' = .panic ch' ∧ u' = .panicking ch')) ∧ leave P (evalD fns P ro callF k) fn o.a.tm o.a.defers u o.s = some r := by
              obtain ⟨e, a1, s1⟩ := o
              cases e with
              | normal => exact ⟨.returning, fun ρ e' hx => by cases e' <;> first | exact hx.elim | exact ⟨.returning, trivial, .inl ⟨rfl, rfl⟩⟩, h⟩
              | ret => exact ⟨.returning, fun ρ e' hx => by cases e' <;> first | exact hx.elim | exact ⟨.returning, trivial, .inr (.inl ⟨rfl, rfl⟩)⟩, h⟩
              | panic ch => exact ⟨.panicking ch, fun ρ e' hx => by cases e' <;> first | exact hx.elim | exact ⟨.panicking _, hx, .inr (.inr ⟨_, rfl, rfl⟩)⟩, h⟩
              | exit id => cases h
            obtain ⟨u, hu, hlv⟩ := hfin
            have hn := leave_next _ _ _ _ hlv
            refine evalC_sim ih k c _ s o he ρ w _ _ hr (act_init hargs (Nat.le_of_ble_eq_true hble)) hro hwf (hf.left hn) fun ρ' w' ac' e' q1 q2 q3 => ?_
            obtain ⟨u', hmd, hcase⟩ := hu ρ' e' q3
            have hl := leave_sim hds (R := fun e w' => ∃ ρ', Step B ro ρ s w ρ' r.st w' ∧ RetR ρ' r e) _ u o.s hlv ρ' w' ac'.defers u' q1.rel q2.tm q2.defers hmd (Nat.le_trans hro q1.next) (q1.wf hwf) (hf.right q1)
              fun ρ2 w2 e2 z1 z2 => ⟨ρ2, q1.trans z1, z2⟩
            rcases hcase with ⟨rfl, rfl⟩ | ⟨rfl, rfl⟩ | ⟨ch', rfl, rfl⟩
            · exact hl
            · exact hl
            · exact hl
          · cases h
      · cases h
    · cases h

theorem evalFM_sim (hfns : ∀ f fn, fns f = some fn → P.funcs[f]? = some fn ∧ fn.name ≠ "runtime.NumGoroutine") {M : List Ent} (hM : ∀ e ∈ M, e.Ok P ro) : ∀ (k : Nat), CallS P B ro (evalFM fns P ro M k)
  | 0 => fun f args s r h => by simp [evalFM] at h
  | k + 1 => fun f args s r h => by
    simp only [evalFM] at h
    split at h
    · rename_i r1 h1
      cases h
      exact findEnt_ok M hM f args s _ h1 B
    · exact layer_sim hfns (evalFM_sim hfns hM k) k f args s r h

theorem ent_ok (hn : namesOk P = true) {M : List Ent} (hM : ∀ e ∈ M, e.Ok P ro) {k : Nat} {e : Ent} (h : checkE (fnsOf P) P ro M k e = true) : e.Ok P ro := by
  unfold checkE at h
  split at h
  · rename_i v s' he
    obtain ⟨h1, h2⟩ := cond_and h
    have h3 := sameV_sound 6 _ _ h1
    have h4 := eqSt_sound h2
    subst h3 h4
    exact fun B => layer_sim (fnsOf_ok hn) (evalFM_sim (fnsOf_ok hn) hM k) k e.f e.args e.s _ he
  · cases h

end

/-- As 'calls_true', the run cut into pieces. -/
theorem calls_true_in_pieces {P : Program} (hn : namesOk P = true) {ro k : Nat} {f : FuncId} {M : List Ent} (hM : ∀ e ∈ M, e.Ok P ro) (h : okTrue (evalFM (fnsOf P) P ro M k f [] ⟨.leaf, ro⟩) = true) (W : World) :
    Calls P f #[] W fun e W' => e = .returned (.bool true) ∧ Go.RowKit.Below W.heap.size W W' := by
  cases he : evalFM (fnsOf P) P ro M k f [] ⟨.leaf, ro⟩ with
  | none => rw [he] at h; cases h
  | some r =>
    have hr : Rel W.heap.size ro (fun _ => none) (T.leaf : T AObj).get W :=
      { base := Nat.le_refl _, inb := (fun _ _ e => by cases e), own := (fun _ _ e => by cases e), rdo := (fun _ _ e => by cases e), inj := (fun _ _ _ _ e => by cases e), obj := (fun _ _ _ e => by cases e) }
    obtain ⟨_, hc⟩ := evalFM_sim (B := W.heap.size) (ro := ro) (fnsOf_ok hn) hM k f [] ⟨.leaf, ro⟩ r he (fun _ => none) W #[] hr (Nat.le_refl _) (wf_leaf _) .nil (fun _ _ _ => rfl)
    refine hc.mono fun e W' ⟨ρ', h1, h2⟩ => ?_
    refine ⟨?_, h1.below hr⟩
    rw [he] at h
    cases r with
    | pan ch s => cases h
    | ok v s =>
      cases v <;> simp only [okTrue, Bool.false_eq_true] at h
      subst h
      cases e with
      | returned v' => rw [VR.bool_inv h2]
      | panicked c => exact h2.elim
      | outgrown => exact h2.elim

end Go.Ab
