/- A part of the proof that what the evaluator says of a piece of code, the model does: no condition but those that each theorem states. -/
import Derived.Test.YtneiaobhjjbedaaEv18
namespace Go.Ab

/-! ### A drawn region comes out the same in every order -/

def Win (r : Rec) (ν : Nat) : Prop := r.s.next ≤ ν ∧ ν < r.s'.next

open Classical in
noncomputable def exObj (log : List Rec) (ν : Nat) : Option AObj := if h : ∃ r, r ∈ log ∧ Win r ν then (Classical.choose h).s'.heap.get ν else none

/-- The heap when the acts below a place are done: what that order holds there, and each block made ahead of its time. -/
noncomputable def Hf (log : List Rec) (s2 : St) (e : Nat) (ν : Nat) : Option AObj :=
  if ν < (stA log s2 e).next then (stA log s2 e).heap.get ν else exObj log ν

structure Ctx (P : Program) (B ro : Nat) (callF : CallE) (nt : Nat) (ops : Array Oper) (a : AAct) (s : St) (log : List Rec) (a2 : AAct) (s2 : St) : Prop where
  hcs : CallS P B ro callF
  hL : LogOk P ro callF nt ops.toList (canonOf P ops) a s log a2 s2
  hD : DrawOk P ops
  hst : stillR P ro (befOf ops) log = true

theorem split_at {log : List Rec} {q : Nat} {r : Rec} (hq : log[q]? = some r) : log = log.take q ++ r :: log.drop (q + 1) := by
  obtain ⟨h, e⟩ := List.getElem?_eq_some_iff.1 hq
  have := List.take_append_drop q log
  rw [List.drop_eq_getElem_cons h, e] at this
  exact this.symm

theorem mem_take {log : List Rec} {q : Nat} {r : Rec} (h : r ∈ log.take q) : ∃ p, p < q ∧ log[p]? = some r := by
  obtain ⟨p, hp⟩ := List.getElem?_of_mem h
  rw [List.getElem?_take] at hp
  by_cases hlt : p < q
  · rw [if_pos hlt] at hp; exact ⟨p, hlt, hp⟩
  · rw [if_neg hlt] at hp; cases hp

theorem mem_drop {log : List Rec} {q : Nat} {r : Rec} (h : r ∈ log.drop (q + 1)) : ∃ p, q < p ∧ log[p]? = some r := by
  obtain ⟨p, hp⟩ := List.getElem?_of_mem h
  rw [List.getElem?_drop] at hp
  exact ⟨q + 1 + p, by omega, hp⟩

section
variable {P : Program} {B ro : Nat} {callF : CallE} {nt : Nat} {ops : Array Oper} {a a2 : AAct} {s s2 : St} {log : List Rec}

theorem st_of {q : Nat} {r : Rec} (hq : log[q]? = some r) : r.s = stA log s2 q := by simp [stA, hq]

theorem Ctx.mono1 (C : Ctx P B ro callF nt ops a s log a2 s2) (q : Nat) : (stA log s2 q).next ≤ (stA log s2 (q + 1)).next := by
  cases hq : log[q]? with
  | none =>
    have : log[q + 1]? = none := by rw [List.getElem?_eq_none_iff] at hq ⊢; omega
    simp [stA, hq, this]
  | some r =>
    rw [← C.hL.s' q r hq, ← st_of (s2 := s2) hq]
    rcases (C.hL.ok r (List.mem_of_getElem? hq)).ok with ⟨_, _, h⟩ | ⟨_, _, _, h⟩
    · exact stepOp_next h
    · rw [h]; exact Nat.le_refl _

theorem Ctx.mono (C : Ctx P B ro callF nt ops a s log a2 s2) {p q : Nat} (h : p ≤ q) : (stA log s2 p).next ≤ (stA log s2 q).next := by
  induction h with
  | refl => exact Nat.le_refl _
  | step _ ih => exact Nat.le_trans ih (C.mono1 _)

theorem Ctx.opOf (C : Ctx P B ro callF nt ops a s log a2 s2) {q : Nat} {r : Rec} (hq : log[q]? = some r) : ops[r.i]? = some r.o :=
  canonOf_op (List.mem_of_getElem? (C.hL.op q r hq))

theorem Ctx.lt (C : Ctx P B ro callF nt ops a s log a2 s2) {q : Nat} {r : Rec} (hq : log[q]? = some r) : r.i < ops.size := (Array.getElem?_eq_some_iff.1 (C.opOf hq)).1

theorem Ctx.pair (C : Ctx P B ro callF nt ops a s log a2 s2) {p q : Nat} {x y : Rec} (h : p < q) (hp : log[p]? = some x) (hq : log[q]? = some y) : PairOk P ops x.i y.i x.o y.o :=
  pairsOk_get _ C.hD.pairs p q _ _ _ _ h (C.hL.op p x hp) (C.hL.op q y hq)

theorem Ctx.inj (C : Ctx P B ro callF nt ops a s log a2 s2) {p q : Nat} {x y : Rec} (hp : log[p]? = some x) (hq : log[q]? = some y) (h : x.i = y.i) : p = q := by
  rcases Nat.lt_trichotomy p q with hlt | he | hlt
  · exact absurd h (C.pair hlt hp hq).ne
  · exact he
  · exact absurd h.symm (C.pair hlt hq hp).ne

theorem Ctx.pos (C : Ctx P B ro callF nt ops a s log a2 s2) {i : Nat} (hi : i < ops.size) : ∃ (q : Nat) (r : Rec), log[q]? = some r ∧ r.i = i := by
  obtain ⟨o, ho⟩ := C.hD.mem hi
  obtain ⟨q, hq⟩ := List.getElem?_of_mem ho
  have hlt : q < log.length := by rw [C.hL.len]; exact (List.getElem?_eq_some_iff.1 hq).1
  refine ⟨q, log[q], List.getElem?_eq_getElem hlt, ?_⟩
  have := C.hL.op q _ (List.getElem?_eq_getElem hlt)
  rw [hq] at this
  simp at this
  exact this.1.symm

theorem Ctx.uniq (C : Ctx P B ro callF nt ops a s log a2 s2) {x y : Rec} {ν : Nat} (hx : x ∈ log) (hy : y ∈ log) (wx : Win x ν) (wy : Win y ν) : x = y := by
  obtain ⟨p, hp⟩ := List.getElem?_of_mem hx
  obtain ⟨q, hq⟩ := List.getElem?_of_mem hy
  have key : ∀ {p q : Nat} {x y : Rec}, log[p]? = some x → log[q]? = some y → Win x ν → Win y ν → ¬p < q := by
    intro p q x y hp hq wx wy h
    have h1 := C.mono (p := p + 1) (q := q) h
    rw [← C.hL.s' p x hp, ← st_of (s2 := s2) hq] at h1
    have := wx.2; have := wy.1; omega
  have : p = q := by have := key hp hq wx wy; have := key hq hp wy wx; omega
  subst this
  rw [hp] at hq; exact Option.some.inj hq

theorem Ctx.exObj_win (C : Ctx P B ro callF nt ops a s log a2 s2) {r : Rec} {ν : Nat} (hr : r ∈ log) (hw : Win r ν) : exObj log ν = r.s'.heap.get ν := by
  have h : ∃ r, r ∈ log ∧ Win r ν := ⟨r, hr, hw⟩
  unfold exObj
  rw [dif_pos h]
  rw [C.uniq (Classical.choose_spec h).1 hr (Classical.choose_spec h).2 hw]

theorem Ctx.exObj_none (C : Ctx P B ro callF nt ops a s log a2 s2) {ν : Nat} (h : s2.next ≤ ν) : exObj log ν = none := by
  unfold exObj
  rw [dif_neg]
  rintro ⟨r, hr, hw⟩
  obtain ⟨q, hq⟩ := List.getElem?_of_mem hr
  have hlt := (List.getElem?_eq_some_iff.1 hq).1
  have h1 := C.mono (p := q + 1) (q := log.length) hlt
  rw [← C.hL.s' q r hq] at h1
  have h2 : stA log s2 log.length = s2 := by simp [stA]
  rw [h2] at h1
  have := hw.2; omega

theorem Ctx.quiet1 (C : Ctx P B ro callF nt ops a s log a2 s2) {e : Nat} (hn : ∀ r : Rec, log[e]? = some r → isAct P r = false) (hw : Wf (stA log s2 e)) : Hf log s2 e = Hf log s2 (e + 1) ∧ Wf (stA log s2 (e + 1)) := by
  cases he : log[e]? with
  | none =>
    have h2 : log[e + 1]? = none := by rw [List.getElem?_eq_none_iff] at he ⊢; omega
    have : stA log s2 e = stA log s2 (e + 1) := by simp [stA, he, h2]
    refine ⟨?_, this ▸ hw⟩
    funext ν; simp only [Hf, this]
  | some r =>
    have h1 := st_of (s2 := s2) he
    have h2 := C.hL.s' e r he
    have hm := List.mem_of_getElem? he
    rcases (C.hL.ok r hm).kind.still (hn r he) with hs | ⟨ob, hs⟩
    · have : stA log s2 e = stA log s2 (e + 1) := by rw [← h1, ← h2, hs]
      refine ⟨?_, this ▸ hw⟩
      funext ν; simp only [Hf, this]
    · have h3 : stA log s2 (e + 1) = ⟨(stA log s2 e).heap.set (stA log s2 e).next ob, (stA log s2 e).next + 1⟩ := by rw [← h2, hs, h1]
      refine ⟨?_, ?_⟩
      · funext ν
        simp only [Hf, h3]
        by_cases hlt : ν < (stA log s2 e).next
        · rw [if_pos hlt, if_pos (by omega), T.get_set, if_neg (by omega)]
        · rw [if_neg hlt]
          by_cases heq : ν = (stA log s2 e).next
          · subst heq
            rw [if_pos (by omega), C.exObj_win hm ⟨by rw [h1]; exact Nat.le_refl _, by rw [hs, h1]; simp⟩, hs, h1]
          · rw [if_neg (by omega)]
      · rw [h3]
        intro ν o e1
        simp only [T.get_set] at e1 ⊢
        by_cases hm : ν = (stA log s2 e).next
        · omega
        · rw [if_neg hm] at e1; have := hw ν o e1; omega

theorem Ctx.quiet (C : Ctx P B ro callF nt ops a s log a2 s2) {e q : Nat} (h : e ≤ q) (hn : ∀ (p : Nat) (r : Rec), e ≤ p → p < q → log[p]? = some r → isAct P r = false) (hw : Wf (stA log s2 e)) : Hf log s2 e = Hf log s2 q ∧ Wf (stA log s2 q) := by
  induction h with
  | refl => exact ⟨rfl, hw⟩
  | step hle ih =>
    rename_i m
    obtain ⟨h1, h2⟩ := ih fun p r h1 h2 h3 => hn p r h1 (by omega) h3
    obtain ⟨h3, h4⟩ := C.quiet1 (fun r hr => hn m r hle (by omega) hr) h2
    exact ⟨h1.trans h3, h4⟩

theorem Ctx.still (C : Ctx P B ro callF nt ops a s log a2 s2) {r x : Rec} (hr : r ∈ log) (hx : x ∈ log) (h1 : r.ran = true) (h2 : clsOf P r.o.op = .read) (h3 : isAct P x = true) :
    ordered (befOf ops) r.i x.i = true ∨ (evalOp P ro r.tm r.o.op x.s = some (.val r.v x.s) ∧ evalOp P ro r.tm r.o.op x.s' = some (.val r.v x.s')) := by
  have h := C.hst
  simp only [stillR, List.all_eq_true, Bool.or_eq_true, Bool.not_eq_true', Bool.and_eq_true] at h
  rcases h r hr with h | h
  · simp [isRead, h2, h1] at h
  · rcases h x hx with (h | h) | h
    · rw [h3] at h; cases h
    · exact .inl h
    · exact .inr ⟨isVal_sound h2 h.1, isVal_sound h2 h.2⟩

/-- Where the run stands when some of the region's operations are done. -/
structure Inv (P : Program) (B ro nt : Nat) (a : AAct) (s2 : St) (log : List Rec) (ρ0 : Ren) (w0 : World) (dfs : List Deferred) (done : List Nat) (e : Nat) (ρ : Ren) (w : World) (ac : Act) : Prop where
  step : StepH B ro ρ0 (Hf log s2 0) w0 ρ (Hf log s2 e) w
  tm : TmR ρ (tmD (fun i => decide (i ∈ done)) a.tm log) ac.tmps
  size : ac.tmps.size = nt
  defers : ac.defers = dfs
  acts : ∀ (p : Nat) (r : Rec), e ≤ p → log[p]? = some r → isAct P r = true → r.i ∉ done
  last : e = 0 ∨ ∃ (p : Nat) (r : Rec), e = p + 1 ∧ log[p]? = some r ∧ isAct P r = true ∧ r.i ∈ done
  wf : Wf (stA log s2 e)
  names : ∀ ν i, ρ ν = some i → ρ0 ν = none → ∃ r, r ∈ log ∧ r.i ∈ done ∧ Win r ν

/-- One that is next, by what stands ahead of it and by what does not. -/
structure Turn (ops : Array Oper) (done : List Nat) (i : Nat) : Prop where
  out : i ∉ done
  before : ∀ j, j < ops.size → bitOf (befOf ops) i j = true → j ∈ done
  after : ∀ k ∈ done, bitOf (befOf ops) k i = true → False

theorem turn_of {l done rest : List Nat} {i : Nat} (hg : Good ops l) (h : done ++ i :: rest = l) : Turn ops done i := by
  have hi : l[done.length]? = some i := by rw [← h, List.getElem?_append_right (Nat.le_refl _)]; simp
  have ht : l.take done.length = done := by rw [← h]; simp
  have hlt := hg.lt i (List.mem_of_getElem? hi)
  have hnd := hg.nodup
  rw [← h] at hnd
  have hout : i ∉ done := fun hm => (List.nodup_append.1 hnd).2.2 i hm i (by simp) rfl
  refine ⟨hout, fun j hj hb => ?_, fun k hk hb => ?_⟩
  · have := bit_ahead hg hj hb done.length hi
    rwa [ht] at this
  · obtain ⟨m, hm⟩ := List.getElem?_of_mem hk
    have hmlt := (List.getElem?_eq_some_iff.1 hm).1
    have hm' : l[m]? = some k := by rw [← h, List.getElem?_append_left hmlt]; exact hm
    have h1 := bit_ahead hg hlt hb m hm'
    have h2 : i ∈ l.take done.length := List.mem_of_mem_take (i := m) (by rw [List.take_take, Nat.min_eq_left (by omega)]; exact h1)
    rw [ht] at h2
    exact hout h2

theorem Ctx.looks (C : Ctx P B ro callF nt ops a s log a2 s2) {done : List Nat} {q : Nat} {r : Rec} (hq : log[q]? = some r) (ht : Turn ops done r.i) {t : Nat} (hm : t ∈ r.o.looksAt ops) :
    tmv (tmD (fun i => decide (i ∈ done)) a.tm log) t = tmv r.tm t := by
  have key : (tmD (fun i => decide (i ∈ done)) a.tm log).get t = r.tm.get t := by
    rw [C.hL.tm q r hq]
    have hsp := split_at hq
    rw [hsp, tmD_app]
    simp only [tmD]
    rw [if_neg (by simpa using ht.out)]
    rw [tmD_skip]
    · rw [← hsp]
      refine tmD_same _ _ _ rfl fun x hx hd => ?_
      obtain ⟨p, hp, hx⟩ := mem_take hx
      have hpr := C.pair hp hx hq
      rcases hpr.way with ⟨_, hb⟩ | ⟨_, hap, _⟩
      · have := ht.before x.i (C.lt hx) hb
        simp [this] at hd
      · intro e
        exact (Oper.apart_spec hap).1 t e hm
    · intro x hx hd e
      obtain ⟨p, hp, hx⟩ := mem_drop hx
      have hpr := C.pair hp hq hx
      rcases hpr.way with ⟨_, hb⟩ | ⟨_, hap, _⟩
      · exact ht.after x.i (by simpa using hd) hb
      · exact (Oper.apart_spec hap).2.2 t e hm
  unfold tmv
  rw [key]

theorem Ctx.puts (C : Ctx P B ro callF nt ops a s log a2 s2) {done : List Nat} {q : Nat} {r : Rec} (hq : log[q]? = some r) (ht : Turn ops done r.i) (t : Nat) :
    tmv (tmD (fun i => decide (i ∈ done ++ [r.i])) a.tm log) t = tmv (setO (tmD (fun i => decide (i ∈ done)) a.tm log) r.o.dst r.v) t := by
  have key : (tmD (fun i => decide (i ∈ done ++ [r.i])) a.tm log).get t = (putT (tmD (fun i => decide (i ∈ done)) a.tm log) r).get t := by
    have hsp := split_at hq
    rw [hsp, tmD_app, tmD_app]
    simp only [tmD]
    rw [if_pos (by simp), if_neg (by simpa using ht.out)]
    rw [tmD_eq (D := fun i => decide (i ∈ done ++ [r.i])) (D' := fun i => decide (i ∈ done)) (log.take q)]
    · refine tmD_put _ _ (fun x hx => ?_) fun x hx hd d hdst => ?_
      · obtain ⟨p, hp, hx⟩ := mem_drop hx
        have : x.i ≠ r.i := fun e => by have := C.inj hx hq e; omega
        simp [this]
      · obtain ⟨p, hp, hx⟩ := mem_drop hx
        have hpr := C.pair hp hq hx
        rcases hpr.way with ⟨_, hb⟩ | ⟨_, hap, _⟩
        · exact (ht.after x.i (by simpa using hd) hb).elim
        · exact (Oper.apart_spec hap).2.1 d hdst
    · intro x hx
      obtain ⟨p, hp, hx⟩ := mem_take hx
      have : x.i ≠ r.i := fun e => by have := C.inj hx hq e; omega
      simp [this]
  unfold tmv
  rw [key]; rfl

theorem put_tmR {ρ : Ren} {tm tm' : T Value} {ac : Act} {dst : Option Tmp} {v v' : Value} (h : TmR ρ tm ac.tmps) (hs : ac.tmps.size = nt) (hd : ∀ d, dst = some d → d < nt) (hv : VR ρ v v')
    (he : ∀ t, tmv tm' t = tmv (setO tm dst v) t) : TmR ρ tm' (ac.put dst v').tmps ∧ (ac.put dst v').tmps.size = nt ∧ (ac.put dst v').defers = ac.defers := by
  cases dst with
  | none => exact ⟨fun t => by rw [he t]; exact h t, hs, rfl⟩
  | some d =>
    refine ⟨fun t => ?_, by simpa [Act.put] using hs, rfl⟩
    rw [he t]
    exact tmR_set h hs (hd d rfl) hv t

end
end Go.Ab
