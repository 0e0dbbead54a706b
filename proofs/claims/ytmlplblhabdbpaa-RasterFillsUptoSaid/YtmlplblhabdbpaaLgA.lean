/- A part of the proof: rules for walking code over the evaluator, and what the functions that were walked come to: no condition but those that each theorem states. -/
import Derived.Test.YtmlplblhabdbpaaEv26
set_option linter.unusedVariables false
set_option linter.unusedSimpArgs false
namespace Go.Ab
noncomputable section

/-! ### A logic over the evaluator: what temporaries hold is told by a function; the state stays a state. -/

abbrev Gm := Nat → Option Value
def up (g : Gm) (d : Nat) (v : Value) : Gm := fun n => bif Nat.beq n d then some v else g n
def og (g : Gm) : Operand → Value
  | .tmp t => match g t with | some v => v | none => und
  | .const v => bif closedV 3 v then v else unk
  | .global _ => unk
  | .func f => .func (.func f) #[] #[]
/-- Temporaries of which this is known. -/
def over (g : Gm) : List (Nat × Value) → Gm
  | [] => g
  | (d, v) :: l => up (over g l) d v
def holds (g : Gm) : List (Nat × Value) → Prop
  | [] => True
  | (d, v) :: l => g d = some v ∧ holds g l
def argsG (l : List Value) : Gm := fun n => nth l n

theorem opv_og (t : T Value) (x : Operand) : opv t x = og t.get x := by cases x <;> rfl
theorem up_if (g : Gm) (d : Nat) (v : Value) (n : Nat) : up g d v n = if n = d then some v else g n := by
  unfold up
  by_cases h : n = d
  · subst h; rw [if_pos rfl, show Nat.beq n n = true from Nat.beq_refl n]; rfl
  · rw [if_neg h, show Nat.beq n d = false from by cases e : Nat.beq n d with | false => rfl | true => exact absurd (Nat.eq_of_beq_eq_true e) h]; rfl
theorem get_up (t : T Value) (d : Nat) (v : Value) : (t.set d v).get = up t.get d v := by
  funext n; rw [T.get_set, up_if]
theorem up_same {g : Gm} {d : Nat} {v : Value} (h : g d = some v) : up g d v = g := by
  funext n; rw [up_if]; split
  · rename_i e; subst e; exact h.symm
  · rfl
theorem over_same {g : Gm} : ∀ {l : List (Nat × Value)}, holds g l → over g l = g
  | [], _ => rfl
  | (d, v) :: l, h => by
    show up (over g l) d v = g
    rw [over_same h.2]; exact up_same h.1

def thn (K : Gm → List Deferred → St → Prop) (Q : Ex → Gm → List Deferred → St → Prop) : Ex → Gm → List Deferred → St → Prop
  | .normal, g, ds, s => K g ds s
  | e, g, ds, s => Q e g ds s
def blk (id : Nat) (Q : Ex → Gm → List Deferred → St → Prop) : Ex → Gm → List Deferred → St → Prop
  | .exit i, g, ds, s => bif Nat.beq i id then Q .normal g ds s else Q (.exit i) g ds s
  | e, g, ds, s => Q e g ds s

section
variable (X : CallE) (P : Program) (ro : Nat)

def evX : Nat → CallE
  | 0 => X
  | k + 1 => fun f args s => match X f args s with
    | some r => some r
    | none => layer (fnsOf P) P ro (evX k) k f args s

/-- From some bound on the evaluator answers so. -/
def Run (f : FuncId) (args : List Value) (s : St) (r : Ret) : Prop := ∃ K, ∀ k, K ≤ k → evX X P ro k f args s = some r
def RunV (f : FuncId) (args : List Value) (s : St) (Q : Value → St → Prop) : Prop := ∃ v s', Run X P ro f args s (.ok v s') ∧ Q v s'

def SV (g : Gm) (op : Op) (s : St) (R : Value → St → Prop) : Prop :=
  ∃ v s', (∃ K, ∀ j, K ≤ j → ∀ t : T Value, t.get = g → stepOp P ro (evX X P ro j) t op s = some (.inl (.ok v s'))) ∧ R v s'

def WO (nt : Nat) (all ops : List Oper) (g : Gm) (ds : List Deferred) (s : St) (Q : Ex → Gm → List Deferred → St → Prop) : Prop :=
  ∀ t : T Value, t.get = g → ∃ o : Out, (∃ K, ∀ j, K ≤ j → evalOps P ro (evX X P ro j) nt all ops ⟨t, ds⟩ s = some o) ∧ Q o.e o.a.tm.get o.a.defers o.s

def WC (nt : Nat) (c : Code) (g : Gm) (ds : List Deferred) (s : St) (Q : Ex → Gm → List Deferred → St → Prop) : Prop :=
  ∀ t : T Value, t.get = g → ∃ o : Out, (∃ K, ∀ k j, K ≤ k → K ≤ j → evalC P ro (evX X P ro j) nt k c ⟨t, ds⟩ s = some o) ∧ Q o.e o.a.tm.get o.a.defers o.s
end

variable {X : CallE} {P : Program} {ro : Nat} {nt : Nat} {all rest : List Oper} {g : Gm} {ds : List Deferred} {s : St} {Q : Ex → Gm → List Deferred → St → Prop}
  {op : Op} {ty : TypeId} {pos : String} {after : Array Edge} {d : Nat}

theorem SV.mono {R R' : Value → St → Prop} (h : SV X P ro g op s R) (hm : ∀ v s', R v s' → R' v s') : SV X P ro g op s R' := by
  obtain ⟨v, s', h1, h2⟩ := h; exact ⟨v, s', h1, hm _ _ h2⟩

theorem WO.mono {ops : List Oper} {Q' : Ex → Gm → List Deferred → St → Prop} (h : WO X P ro nt all ops g ds s Q) (hm : ∀ e g ds s, Q e g ds s → Q' e g ds s) : WO X P ro nt all ops g ds s Q' := fun t ht => by
  obtain ⟨o, h1, h2⟩ := h t ht; exact ⟨o, h1, hm _ _ _ _ h2⟩
theorem WC.mono {c : Code} {Q' : Ex → Gm → List Deferred → St → Prop} (h : WC X P ro nt c g ds s Q) (hm : ∀ e g ds s, Q e g ds s → Q' e g ds s) : WC X P ro nt c g ds s Q' := fun t ht => by
  obtain ⟨o, h1, h2⟩ := h t ht; exact ⟨o, h1, hm _ _ _ _ h2⟩

/-! ### Regions, one operation behind the other -/

theorem WO.nil (h : Q .normal g ds s) : WO X P ro nt all [] g ds s Q := fun t ht => ⟨⟨.normal, ⟨t, ds⟩, s⟩, ⟨0, fun _ _ => rfl⟩, by subst ht; exact h⟩

theorem putK_yes {R : Type} {a : AAct} {v : Value} {k : AAct → Option R} (h : d < nt) : putK nt a (some d) v k = k ⟨a.tm.set d v, a.defers⟩ := by
  show (bif Nat.blt d nt then T.setK (d + 1) a.tm d v (fun tm => k ⟨tm, a.defers⟩) else none) = _
  rw [show Nat.blt d nt = true from Nat.blt_eq.mpr h, cond_true]
  exact T.setK_set _ _ _ _

theorem WO.cons (h : SV X P ro g op s (fun v s' => WO X P ro nt all rest (up g d v) ds s' Q)) (hd : d < nt) :
    WO X P ro nt all (⟨some d, op, ty, pos, after, none⟩ :: rest) g ds s Q := fun t ht => by
  obtain ⟨v, s', ⟨K, hK⟩, hR⟩ := h
  obtain ⟨o, ⟨K2, hK2⟩, hQ⟩ := hR (t.set d v) (by rw [get_up, ht])
  refine ⟨o, ⟨max K K2, fun j hj => ?_⟩, hQ⟩
  simp only [evalOps, wantedA, hK j (by omega) t ht, putK_yes hd]
  exact hK2 j (by omega)

theorem WO.cons0 (h : SV X P ro g op s (fun _ s' => WO X P ro nt all rest g ds s' Q)) :
    WO X P ro nt all (⟨none, op, ty, pos, after, none⟩ :: rest) g ds s Q := fun t ht => by
  obtain ⟨v, s', ⟨K, hK⟩, hR⟩ := h
  obtain ⟨o, ⟨K2, hK2⟩, hQ⟩ := hR t ht
  refine ⟨o, ⟨max K K2, fun j hj => ?_⟩, hQ⟩
  simp only [evalOps, wantedA, hK j (by omega) t ht, putK]
  exact hK2 j (by omega)

theorem WO.guard {i dj : Nat} {w b : Bool} {oj : Oper} (ho : nth all i = some oj) (hj : oj.dst = some dj) (hb : g dj = some (.bool b))
    (h1 : b = w → SV X P ro g op s (fun v s' => WO X P ro nt all rest (up g d v) ds s' Q)) (h2 : b = !w → WO X P ro nt all rest (up g d und) ds s Q) (hd : d < nt) :
    WO X P ro nt all (⟨some d, op, ty, pos, after, some (i, w)⟩ :: rest) g ds s Q := fun t ht => by
  by_cases hw : b = w
  · obtain ⟨v, s', ⟨K, hK⟩, hR⟩ := h1 hw
    obtain ⟨o, ⟨K2, hK2⟩, hQ⟩ := hR (t.set d v) (by rw [get_up, ht])
    refine ⟨o, ⟨max K K2, fun j hj' => ?_⟩, hQ⟩
    have e : (b == w) = true := by simpa using hw
    simp only [evalOps, wantedA, ho, hj, ht, hb, e, hK j (by omega) t ht, putK_yes hd]
    exact hK2 j (by omega)
  · obtain ⟨o, ⟨K2, hK2⟩, hQ⟩ := h2 (by cases b <;> cases w <;> simp_all) (t.set d und) (by rw [get_up, ht])
    refine ⟨o, ⟨K2, fun j hj' => ?_⟩, hQ⟩
    have e : (b == w) = false := by simpa using hw
    simp only [evalOps, wantedA, ho, hj, ht, hb, e, putK_yes hd]
    exact hK2 j (by omega)

/-! ### Code -/

theorem WC.region {id : Nat} {ops : Array Oper} (h : WO X P ro nt ops.toList ops.toList g ds s Q) : WC X P ro nt (.region id ops false) g ds s Q := fun t ht => by
  obtain ⟨o, ⟨K, hK⟩, hQ⟩ := h t ht
  refine ⟨o, ⟨K + 1, fun k j hk hj => ?_⟩, hQ⟩
  obtain ⟨k, rfl⟩ : ∃ m, k = m + 1 := ⟨k - 1, by omega⟩
  simp only [evalC, cond_false]
  exact hK j (by omega)

theorem WC.skip (h : Q .normal g ds s) : WC X P ro nt .skip g ds s Q := fun t ht =>
  ⟨⟨.normal, ⟨t, ds⟩, s⟩, ⟨1, fun k j hk _ => by obtain ⟨k, rfl⟩ : ∃ m, k = m + 1 := ⟨k - 1, by omega⟩; rfl⟩, by subst ht; exact h⟩
theorem WC.label {l : Nat} (h : Q .normal g ds s) : WC X P ro nt (.label l) g ds s Q := fun t ht =>
  ⟨⟨.normal, ⟨t, ds⟩, s⟩, ⟨1, fun k j hk _ => by obtain ⟨k, rfl⟩ : ∃ m, k = m + 1 := ⟨k - 1, by omega⟩; rfl⟩, by subst ht; exact h⟩
theorem WC.exit {id : Nat} (h : Q (.exit id) g ds s) : WC X P ro nt (.exit id) g ds s Q := fun t ht =>
  ⟨⟨.exit id, ⟨t, ds⟩, s⟩, ⟨1, fun k j hk _ => by obtain ⟨k, rfl⟩ : ∃ m, k = m + 1 := ⟨k - 1, by omega⟩; rfl⟩, by subst ht; exact h⟩
theorem WC.ret (h : Q .ret g ds s) : WC X P ro nt .ret g ds s Q := fun t ht =>
  ⟨⟨.ret, ⟨t, ds⟩, s⟩, ⟨1, fun k j hk _ => by obtain ⟨k, rfl⟩ : ∃ m, k = m + 1 := ⟨k - 1, by omega⟩; rfl⟩, by subst ht; exact h⟩

theorem WC.seq {x y : Code} (h : WC X P ro nt x g ds s (thn (fun g ds s => WC X P ro nt y g ds s Q) Q)) : WC X P ro nt (.seq x y) g ds s Q := fun t ht => by
  obtain ⟨⟨e, ⟨t1, ds1⟩, s1⟩, ⟨K, hK⟩, hQ⟩ := h t ht
  cases e with
  | normal =>
    obtain ⟨o2, ⟨K2, hK2⟩, hQ2⟩ := hQ t1 rfl
    refine ⟨o2, ⟨max K K2 + 1, fun k j hk hj => ?_⟩, hQ2⟩
    obtain ⟨k, rfl⟩ : ∃ m, k = m + 1 := ⟨k - 1, by omega⟩
    simp only [evalC, hK k j (by omega) (by omega)]
    exact hK2 k j (by omega) (by omega)
  | _ =>
    refine ⟨_, ⟨K + 1, fun k j hk hj => ?_⟩, hQ⟩
    obtain ⟨k, rfl⟩ : ∃ m, k = m + 1 := ⟨k - 1, by omega⟩
    simp only [evalC, hK k j (by omega) (by omega)]

theorem WC.cond {c : Operand} {x y : Code} {b : Bool} (hb : og g c = .bool b) (h1 : b = true → WC X P ro nt x g ds s Q) (h2 : b = false → WC X P ro nt y g ds s Q) :
    WC X P ro nt (.cond c x y) g ds s Q := fun t ht => by
  cases b with
  | true =>
    obtain ⟨o, ⟨K, hK⟩, hQ⟩ := h1 rfl t ht
    refine ⟨o, ⟨K + 1, fun k j hk hj => ?_⟩, hQ⟩
    obtain ⟨k, rfl⟩ : ∃ m, k = m + 1 := ⟨k - 1, by omega⟩
    simp only [evalC, opv_og, ht, hb]
    exact hK k j (by omega) (by omega)
  | false =>
    obtain ⟨o, ⟨K, hK⟩, hQ⟩ := h2 rfl t ht
    refine ⟨o, ⟨K + 1, fun k j hk hj => ?_⟩, hQ⟩
    obtain ⟨k, rfl⟩ : ∃ m, k = m + 1 := ⟨k - 1, by omega⟩
    simp only [evalC, opv_og, ht, hb]
    exact hK k j (by omega) (by omega)

theorem WC.block {id : Nat} {body : Code} (h : WC X P ro nt body g ds s (blk id Q)) : WC X P ro nt (.block id body) g ds s Q := fun t ht => by
  obtain ⟨⟨e, ⟨t1, ds1⟩, s1⟩, ⟨K, hK⟩, hQ⟩ := h t ht
  cases e with
  | exit i =>
    simp only [blk] at hQ
    cases hi : Nat.beq i id with
    | true =>
      rw [hi] at hQ
      refine ⟨⟨.normal, ⟨t1, ds1⟩, s1⟩, ⟨K + 1, fun k j hk hj => ?_⟩, hQ⟩
      obtain ⟨k, rfl⟩ : ∃ m, k = m + 1 := ⟨k - 1, by omega⟩
      simp only [evalC, hK k j (by omega) (by omega), hi, cond_true]
    | false =>
      rw [hi] at hQ
      refine ⟨⟨.exit i, ⟨t1, ds1⟩, s1⟩, ⟨K + 1, fun k j hk hj => ?_⟩, hQ⟩
      obtain ⟨k, rfl⟩ : ∃ m, k = m + 1 := ⟨k - 1, by omega⟩
      simp only [evalC, hK k j (by omega) (by omega), hi, cond_false]
  | _ =>
    refine ⟨_, ⟨K + 1, fun k j hk hj => ?_⟩, hQ⟩
    obtain ⟨k, rfl⟩ : ∃ m, k = m + 1 := ⟨k - 1, by omega⟩
    simp only [evalC, hK k j (by omega) (by omega)]

theorem WC.loop_once {body : Code} (h : WC X P ro nt body g ds s (thn (fun g ds s => WC X P ro nt (.loop body) g ds s Q) Q)) : WC X P ro nt (.loop body) g ds s Q := fun t ht => by
  obtain ⟨⟨e, ⟨t1, ds1⟩, s1⟩, ⟨K, hK⟩, hQ⟩ := h t ht
  cases e with
  | normal =>
    obtain ⟨o2, ⟨K2, hK2⟩, hQ2⟩ := hQ t1 rfl
    refine ⟨o2, ⟨max K K2 + 1, fun k j hk hj => ?_⟩, hQ2⟩
    obtain ⟨k, rfl⟩ : ∃ m, k = m + 1 := ⟨k - 1, by omega⟩
    simp only [evalC, hK k j (by omega) (by omega)]
    exact hK2 k j (by omega) (by omega)
  | _ =>
    refine ⟨_, ⟨K + 1, fun k j hk hj => ?_⟩, hQ⟩
    obtain ⟨k, rfl⟩ : ∃ m, k = m + 1 := ⟨k - 1, by omega⟩
    simp only [evalC, hK k j (by omega) (by omega)]

/-- A loop: the temporaries that live at its head are a function of the data; the data's measure falls. -/
theorem WC.loop {D : Type} {body : Code} (live : D → List (Nat × Value)) (I : D → St → Prop) (μ : D → Nat) (x0 : D) (h0 : holds g (live x0)) (hI : I x0 s)
    (step : ∀ x g s, I x s → WC X P ro nt body (over g (live x)) ds s (thn (fun g ds' s => ds' = ds ∧ ∃ x', holds g (live x') ∧ I x' s ∧ μ x' < μ x) Q)) :
    WC X P ro nt (.loop body) g ds s Q := by
  have main : ∀ n x g s, μ x < n → holds g (live x) → I x s → WC X P ro nt (.loop body) g ds s Q := by
    intro n
    induction n with
    | zero => intro x g s h; omega
    | succ n ih =>
      intro x g s hn hg hI
      refine WC.loop_once ?_
      have := step x g s hI
      rw [over_same hg] at this
      refine this.mono fun e g ds' s hq => ?_
      cases e with
      | normal =>
        obtain ⟨rfl, x', h1, h2, h3⟩ := hq
        exact ih x' g s (by omega) h1 h2
      | _ => exact hq
  exact main (μ x0 + 1) x0 g s (by omega) h0 hI

/-! ### Functions -/

theorem argsG_get (args : List Value) : (T.sets args 0 .leaf).get = argsG args := by
  funext n
  rw [T.get_sets]
  unfold argsG
  rw [nth_eq]
  by_cases h : n < args.length
  · rw [if_pos ⟨Nat.zero_le _, by omega⟩]; rfl
  · rw [if_neg (by omega), T.get_leaf, List.getElem?_eq_none (by omega)]

/-- What a body that defers nothing comes to at its end. -/
def Fin (P : Program) (fn : Func) (Q : Value → St → Prop) : Ex → Gm → List Deferred → St → Prop := fun e g ds s =>
  (match e with | .normal => True | .ret => True | _ => False) ∧ ds = [] ∧ ∃ v, (∀ t : T Value, t.get = g → retOf P fn t s = some (.ok v s)) ∧ Q v s

theorem RunV.of_body {f : FuncId} {args : List Value} {fn : Func} {c : Code} {R : Value → St → Prop} (hX : X f args s = none) (hf : P.funcs[f]? = some fn) (hb : fn.body = some c) (hl : args.length ≤ fn.ntmps)
    (h : WC X P ro fn.ntmps c (argsG args) [] s (Fin P fn R)) : RunV X P ro f args s R := by
  obtain ⟨⟨e, ⟨t1, ds1⟩, s1⟩, ⟨K, hK⟩, h1, h2, v, h3, h4⟩ := h (T.sets args 0 .leaf) (argsG_get args)
  simp only at h1 h2 h3 h4
  subst h2
  refine ⟨v, s1, ⟨K + 1, fun k hk => ?_⟩, h4⟩
  obtain ⟨k, rfl⟩ : ∃ m, k = m + 1 := ⟨k - 1, by omega⟩
  have hk' := hK k k (by omega) (by omega)
  simp only [evX, hX, layer, fnsOf, hf, hb, show Nat.ble args.length fn.ntmps = true from Nat.ble_eq.mpr hl, cond_true, T.setsK_eq, hk']
  cases e <;> simp only at h1 <;> simp only [finish, leave, h3 t1 rfl]

end
end Go.Ab

namespace Go.Ab
noncomputable section

/-! ### What is known of a program's types -/

class TSlice (P : Program) (t : TypeId) (e : outParam TypeId) (n : outParam Nat) : Prop where
  und : P.underlying t = some (.slice e)
  sz : szOf P e = some n
class TArr (P : Program) (t : TypeId) (len : outParam Nat) (e : outParam TypeId) (n : outParam Nat) : Prop where
  und : P.underlying t = some (.array len e)
  sz : szOf P e = some n
class TFld (P : Program) (t : TypeId) (f : Nat) (off : outParam Nat) : Prop where
  ok : ∃ fs fd n, P.underlying t = some (.struct fs) ∧ nth fs.toList f = some fd ∧ szOf P fd.type = some (n + 1) ∧ fd.offset = off
/-- A field of one cell. -/
class TFld1 (P : Program) (t : TypeId) (f : Nat) (off : outParam Nat) : Prop where
  ok : ∃ fs fd, P.underlying t = some (.struct fs) ∧ nth fs.toList f = some fd ∧ isAg P fd.type = some false ∧ fd.offset = off
class TFldA (P : Program) (t : TypeId) (f : Nat) (off : outParam Nat) (n : outParam Nat) : Prop where
  ok : ∃ fs fd, P.underlying t = some (.struct fs) ∧ nth fs.toList f = some fd ∧ isAg P fd.type = some true ∧ szOf P fd.type = some n ∧ fd.offset = off
class TCell (P : Program) (t : TypeId) : Prop where
  ag : isAg P t = some false
  sz : szOf P t = some 1
class TAgg (P : Program) (t : TypeId) (n : outParam Nat) : Prop where
  ag : isAg P t = some true
  sz : szOf P t = some n
class TZero (P : Program) (t : TypeId) (z : outParam (List Value)) : Prop where
  z : zeroC P t = some z
class TInfo (P : Program) (t : TypeId) (size : outParam Nat) (bytes : outParam Nat) : Prop where
  ok : ∃ i, P.info? t = some i ∧ i.size = size ∧ i.bytes = bytes
theorem tinfo_of {P : Program} {t : TypeId} {size bytes : Nat} (h : (P.info? t).map (fun i => (i.size, i.bytes)) = some (size, bytes)) : TInfo P t size bytes := by
  obtain ⟨i, h1, h2⟩ := Option.map_eq_some_iff.mp h
  simp only [Prod.mk.injEq] at h2
  exact ⟨i, h1, h2.1, h2.2⟩
class TPlaces (P : Program) (t : TypeId) (pl : outParam (List (Nat × Nat))) : Prop where
  ok : ∃ fs, P.underlying t = some (.struct fs) ∧ structPlaces P fs.toList = some pl
class TMap (P : Program) (t : TypeId) (k e : outParam TypeId) (kd : outParam TypeDesc) : Prop where
  und : P.underlying t = some (.map k e)
  key : P.underlying k = some kd
class TNoIface (P : Program) (t : TypeId) : Prop where
  ok : ∃ d, P.underlying t = some d ∧ ∀ m, d ≠ .interface m

variable {X : CallE} {P : Program} {ro : Nat} {g : Gm} {s : St} {R : Value → St → Prop}

/-! ### Single operations -/

theorem SV.val {op : Op} {v : Value} {s' : St} (h : ∀ t : T Value, t.get = g → evalOp P ro t op s = some (.val v s')) (hn : s.next ≤ s'.next) (hR : R v s') : SV X P ro g op s R := by
  refine ⟨v, s', ⟨0, fun j _ t ht => ?_⟩, hR⟩
  simp only [stepOp, h t ht, show Nat.ble s.next s'.next = true from Nat.ble_eq.mpr hn, cond_true]

theorem SV.pure {op : Op} {v : Value} (h : ∀ t : T Value, t.get = g → evalOp P ro t op s = some (.val v s)) (hR : R v s) : SV X P ro g op s R := SV.val h (Nat.le_refl _) hR

theorem SV.move {x : Operand} (hR : R (og g x) s) : SV X P ro g (.move x) s R := SV.pure (fun t ht => by simp only [evalOp, opv_og, ht]) hR
theorem SV.assign {x : Operand} (hR : R (og g x) s) : SV X P ro g (.assign x) s R := SV.pure (fun t ht => by simp only [evalOp, opv_og, ht]) hR
theorem SV.pick {c x y : Operand} {b : Bool} (hc : og g c = .bool b) (hR : R (bif b then og g x else og g y) s) : SV X P ro g (.pick c x y) s R :=
  SV.pure (fun t ht => by simp only [evalOp, opv_og, ht, hc]) hR

section
variable {k : IntKind} {m n : Int} {x y : Operand} {t yt : TypeId}
theorem SV.bin {op : BinOp} {a b v : Value} (hx : og g x = a) (hy : og g y = b) (h : bin P ro s op t x y a b = some v) (hR : R v s) : SV X P ro g (.binOp op t x y yt) s R :=
  SV.pure (fun t' ht => by simp only [evalOp, opv_og, ht, hx, hy, h]) hR
theorem bin_int {op : BinOp} (h1 : op ≠ .shl) (h2 : op ≠ .shr) : bin P ro s op t x y (.int k m) (.int k n) = intBin op k m n := by
  cases op <;> first | exact absurd rfl h1 | exact absurd rfl h2 | simp only [bin, if_true]
theorem SV.add (hx : og g x = .int k m) (hy : og g y = .int k n) (hR : R (.int k (wrapK k (m + n))) s) : SV X P ro g (.binOp .add t x y yt) s R :=
  SV.bin hx hy (by rw [bin_int (by decide) (by decide)]; rfl) hR
theorem wrap64 {n : Int} (h : -9223372036854775808 ≤ n ∧ n < 9223372036854775808) : wrapK .i64 n = n := by rw [wrapK_eq]; exact wrap_id h.1 h.2
theorem SV.add64 (hx : og g x = .int .i64 m) (hy : og g y = .int .i64 n) (h : -9223372036854775808 ≤ m + n ∧ m + n < 9223372036854775808) (hR : R (.int .i64 (m + n)) s) : SV X P ro g (.binOp .add t x y yt) s R :=
  SV.add hx hy (by rw [wrap64 h]; exact hR)
theorem SV.sub (hx : og g x = .int k m) (hy : og g y = .int k n) (hR : R (.int k (wrapK k (m - n))) s) : SV X P ro g (.binOp .sub t x y yt) s R :=
  SV.bin hx hy (by rw [bin_int (by decide) (by decide)]; rfl) hR
theorem SV.sub64 (hx : og g x = .int .i64 m) (hy : og g y = .int .i64 n) (h : -9223372036854775808 ≤ m - n ∧ m - n < 9223372036854775808) (hR : R (.int .i64 (m - n)) s) : SV X P ro g (.binOp .sub t x y yt) s R :=
  SV.sub hx hy (by rw [wrap64 h]; exact hR)
theorem SV.mul (hx : og g x = .int k m) (hy : og g y = .int k n) (hR : R (.int k (wrapK k (m * n))) s) : SV X P ro g (.binOp .mul t x y yt) s R :=
  SV.bin hx hy (by rw [bin_int (by decide) (by decide)]; rfl) hR
theorem SV.rem (hx : og g x = .int k m) (hy : og g y = .int k n) (h : n ≠ 0) (hR : R (.int k (m.tmod n)) s) : SV X P ro g (.binOp .rem t x y yt) s R :=
  SV.bin hx hy (by rw [bin_int (by decide) (by decide)]; simp [intBin, eqI_eq, show (n == 0) = false from by simpa using h]) hR
theorem SV.lss (hx : og g x = .int k m) (hy : og g y = .int k n) (hR : R (.bool (decide (m < n))) s) : SV X P ro g (.binOp .lss t x y yt) s R :=
  SV.bin hx hy (by rw [bin_int (by decide) (by decide)]; simp only [intBin, ltI_eq]) hR
theorem SV.leq (hx : og g x = .int k m) (hy : og g y = .int k n) (hR : R (.bool (decide (m ≤ n))) s) : SV X P ro g (.binOp .leq t x y yt) s R :=
  SV.bin hx hy (by rw [bin_int (by decide) (by decide)]; simp only [intBin, ltI_eq, ← decide_not, Int.not_lt]) hR
theorem SV.gtr (hx : og g x = .int k m) (hy : og g y = .int k n) (hR : R (.bool (decide (n < m))) s) : SV X P ro g (.binOp .gtr t x y yt) s R :=
  SV.bin hx hy (by rw [bin_int (by decide) (by decide)]; simp only [intBin, ltI_eq]) hR
theorem SV.geq (hx : og g x = .int k m) (hy : og g y = .int k n) (hR : R (.bool (decide (n ≤ m))) s) : SV X P ro g (.binOp .geq t x y yt) s R :=
  SV.bin hx hy (by rw [bin_int (by decide) (by decide)]; simp only [intBin, ltI_eq, ← decide_not, Int.not_lt]) hR
theorem beq_dec (m n : Int) : (m == n) = decide (m = n) := by by_cases h : m = n <;> simp [h]
theorem SV.eqlI (hx : og g x = .int k m) (hy : og g y = .int k n) (hR : R (.bool (decide (m = n))) s) : SV X P ro g (.binOp .eql t x y yt) s R :=
  SV.bin hx hy (by rw [bin_int (by decide) (by decide)]; simp only [intBin, eqI_eq, beq_dec]) hR
theorem SV.neqI (hx : og g x = .int k m) (hy : og g y = .int k n) (hR : R (.bool (decide (m ≠ n))) s) : SV X P ro g (.binOp .neq t x y yt) s R :=
  SV.bin hx hy (by rw [bin_int (by decide) (by decide)]; simp only [intBin, eqI_eq, beq_dec, ← decide_not]) hR
/-- Two booleans, pointers, slices .. held against each other. -/
theorem SV.eqlV {a b : Value} {r : Bool} (hx : og g x = a) (hy : og g y = b) (h : (eqShape a && eqShape b && guardOk P t x y a b) = true) (hv : eqV P ro s 100 t a b = some r) (hR : R (.bool r) s) :
    SV X P ro g (.binOp .eql t x y yt) s R := SV.bin hx hy (by
  cases a <;> cases b <;> first | (simp only [eqShape, Bool.false_and, Bool.and_false, Bool.false_eq_true] at h; done) | simp only [Go.Ab.bin, h, cond_true, hv]) hR
theorem SV.neqV {a b : Value} {r : Bool} (hx : og g x = a) (hy : og g y = b) (h : (eqShape a && eqShape b && guardOk P t x y a b) = true) (hv : eqV P ro s 100 t a b = some r) (hR : R (.bool (!r)) s) :
    SV X P ro g (.binOp .neq t x y yt) s R := SV.bin hx hy (by
  cases a <;> cases b <;> first | (simp only [eqShape, Bool.false_and, Bool.and_false, Bool.false_eq_true] at h; done) | simp only [Go.Ab.bin, h, cond_true, hv]) hR
end

theorem SV.un {op : UnOp} {t : TypeId} {x : Operand} {a v : Value} (hx : og g x = a) (h : un op a = some v) (hR : R v s) : SV X P ro g (.unOp op t x) s R :=
  SV.pure (fun t' ht => by simp only [evalOp, opv_og, ht, hx, h]) hR
theorem SV.not {t : TypeId} {x : Operand} {b : Bool} (hx : og g x = .bool b) (hR : R (.bool (!b)) s) : SV X P ro g (.unOp .not t x) s R := SV.un hx rfl hR
theorem SV.extract {x : Operand} {i : Nat} {vs : Array Value} {v : Value} (hx : og g x = .tuple vs) (h : nth vs.toList i = some v) (hR : R v s) : SV X P ro g (.extract x i) s R :=
  SV.pure (fun t' ht => by simp only [evalOp, opv_og, ht, hx, h]) hR
theorem SV.makeInterface {t : TypeId} {x : Operand} [h : TNoIface P t] (hR : R (.iface t (og g x)) s) : SV X P ro g (.makeInterface t x) s R := by
  obtain ⟨d, hd, hn⟩ := h.ok
  refine SV.pure (fun t' ht => ?_) hR
  simp only [evalOp, opv_og, ht]
  rw [hd]
  cases d <;> first | exact absurd rfl (hn _) | rfl
theorem SV.makeFunc {fn : Fn} {a c : Array Operand} (hR : R (.func fn (a.toList.map (og g)).toArray (c.toList.map (og g)).toArray) s) : SV X P ro g (.makeFunc fn a c) s R :=
  SV.pure (fun t' ht => by
    have e : opv t' = og g := by funext x; rw [opv_og, ht]
    simp only [evalOp, e]) hR
theorem SV.nilPtr {x : Operand} {a : Addr} (hx : og g x = .pointer (some a)) (hR : R (.pointer (some a)) s) : SV X P ro g (.nilCheck x) s R :=
  SV.pure (fun t' ht => by simp only [evalOp, opv_og, ht, hx]) hR
theorem SV.nilFn {x : Operand} {f : FuncId} {a b : Array Value} (hx : og g x = .func (.func f) a b) (hR : R (.func (.func f) a b) s) : SV X P ro g (.nilCheck x) s R :=
  SV.pure (fun t' ht => by simp only [evalOp, opv_og, ht, hx]) hR
theorem addA_spot (ν o n : Nat) : addA ⟨ν, o, none⟩ n = ⟨ν, o + n, none⟩ := by cases n <;> rfl
theorem SV.fieldAddr {t : TypeId} {x : Operand} {f off : Nat} [h : TFld P t f off] {ν o : Nat} (hx : og g x = .pointer (some ⟨ν, o, none⟩)) (hR : R (.pointer (some ⟨ν, o + off, none⟩)) s) : SV X P ro g (.fieldAddr t x f) s R := by
  obtain ⟨fs, fd, n, h1, h2, h3, h4⟩ := h.ok
  refine SV.pure (fun t' ht => ?_) hR
  simp only [evalOp, opv_og, ht, hx, h1, h2, h3, addA_spot, h4]
theorem SV.field {t : TypeId} {x : Operand} {f off : Nat} [h : TFld1 P t f off] {cs : Array Value} {v : Value} (hx : og g x = .agg cs) (hv : nth cs.toList off = some v) (hR : R v s) : SV X P ro g (.field t x f) s R := by
  obtain ⟨fs, fd, h1, h2, h3, h4⟩ := h.ok
  refine SV.pure (fun t' ht => ?_) hR
  simp only [evalOp, opv_og, ht, hx, h1, h2, partOf, h3, h4, hv]
theorem SV.fieldA {t : TypeId} {x : Operand} {f off n : Nat} [h : TFldA P t f off n] {cs : Array Value} (hx : og g x = .agg cs) (hR : R (.agg ((cs.toList.drop off).take n).toArray) s) : SV X P ro g (.field t x f) s R := by
  obtain ⟨fs, fd, h1, h2, h3, h3', h4⟩ := h.ok
  refine SV.pure (fun t' ht => ?_) hR
  simp only [evalOp, opv_og, ht, hx, h1, h2, partOf, h3, h3', h4]
theorem SV.indexAddr {t e : TypeId} {n : Nat} {x ix : Operand} [h : TSlice P t e n] {ν o len cap : Nat} {k : IntKind} {i : Int} (hx : og g x = .slice (some ⟨ν, o, none⟩) len cap) (hi : og g ix = .int k i) (h0 : 0 ≤ i ∧ i < len)
    (hR : R (.pointer (some ⟨ν, o + i.toNat * n, none⟩)) s) : SV X P ro g (.indexAddr t x ix) s R := by
  refine SV.pure (fun t' ht => ?_) hR
  obtain ⟨m, rfl⟩ : ∃ m : Nat, i = Int.ofNat m := ⟨i.toNat, by simp; omega⟩
  have hlt : Nat.blt m len = true := by rw [Nat.blt_eq]; have := h0.2; simp at this; omega
  simp only [evalOp, opv_og, ht, hx, hi, h.und, h.sz, hlt, cond_true, addA_spot]
  rfl
theorem SV.indexAddrA {t e : TypeId} {len n : Nat} {x ix : Operand} [h : TArr P t len e n] {ν o : Nat} {k : IntKind} {i : Int} (hx : og g x = .pointer (some ⟨ν, o, none⟩)) (hi : og g ix = .int k i) (h0 : 0 ≤ i ∧ i < len)
    (hR : R (.pointer (some ⟨ν, o + i.toNat * n, none⟩)) s) : SV X P ro g (.indexAddr t x ix) s R := by
  refine SV.pure (fun t' ht => ?_) hR
  obtain ⟨m, rfl⟩ : ∃ m : Nat, i = Int.ofNat m := ⟨i.toNat, by simp; omega⟩
  have hlt : Nat.blt m len = true := by rw [Nat.blt_eq]; have := h0.2; simp at this; omega
  simp only [evalOp, opv_og, ht, hx, hi, h.und, h.sz, hlt, cond_true, addA_spot]
  rfl
theorem SV.len {t : TypeId} {x : Operand} {ts : Array TypeId} {e : TypeId} {n : Nat} [h : TSlice P t e n] {A : Option Addr} {len cap : Nat} (hts : ts.toList = [t]) (hx : og g x = .slice A len cap) (hR : R (.int .i64 len) s) :
    SV X P ro g (.call ⟨.builtin .len, #[x], ts⟩) s R :=
  SV.pure (fun t' ht => by simp only [evalOp, builtinOf, hts, List.map_cons, List.map_nil, opv_og, ht, hx, lenB, h.und]; rfl) hR
theorem SV.max2 {x y : Operand} {ts : Array TypeId} {k : IntKind} {m n : Int} (hx : og g x = .int k m) (hy : og g y = .int k n) (hR : R (.int k (if m < n then n else m)) s) :
    SV X P ro g (.call ⟨.builtin .max, #[x, y], ts⟩) s R :=
  SV.pure (fun t' ht => by
    simp only [evalOp, builtinOf, List.map_cons, List.map_nil, opv_og, ht, hx, hy, maxOf, Go.Ab.max2, ltI_eq, cond_true]
    by_cases h : m < n <;> simp [h]) hR
theorem SV.min2 {x y : Operand} {ts : Array TypeId} {k : IntKind} {m n : Int} (hx : og g x = .int k m) (hy : og g y = .int k n) (hR : R (.int k (if n < m then n else m)) s) :
    SV X P ro g (.call ⟨.builtin .min, #[x, y], ts⟩) s R :=
  SV.pure (fun t' ht => by
    simp only [evalOp, builtinOf, List.map_cons, List.map_nil, opv_og, ht, hx, hy, maxOf, Go.Ab.max2, ltI_eq, cond_false]
    by_cases h : n < m <;> simp [h]) hR

/-! ### Memory -/

def St.push (s : St) (o : AObj) : St := ⟨s.heap.set s.next o, s.next + 1⟩
def St.put (s : St) (ν : Nat) (o : AObj) : St := ⟨s.heap.set ν o, s.next⟩
theorem St.push_next (s : St) (o : AObj) : (s.push o).next = s.next + 1 := rfl
theorem St.push_get (s : St) (o : AObj) (μ : Nat) : (s.push o).heap.get μ = if μ = s.next then some o else s.heap.get μ := T.get_set _ _ _ _
theorem St.put_get (s : St) (ν : Nat) (o : AObj) (μ : Nat) : (s.put ν o).heap.get μ = if μ = ν then some o else s.heap.get μ := T.get_set _ _ _ _

def rowO (elem : TypeId) (opn : Bool) (es : Nat) (vs : List Value) : AObj := .cells { cells := T.sets vs 0 .leaf, n := vs.length, z := [], elem, opn, es, str := false, dead := false }

theorem SV.alloc {e : TypeId} {z : List Value} [h : TZero P e z] (hR : R (.pointer (some ⟨s.next, 0, none⟩)) (s.push (rowO e false 0 z))) : SV X P ro g (.alloc e) s R :=
  SV.val (fun t' ht => by simp only [evalOp, h.z, newRow_eq]; rfl) (Nat.le_succ _) hR
theorem SV.box {e : TypeId} {x : Operand} {l : List Value} (hx : cellsV (og g x) = some l) (hR : R (.pointer (some ⟨s.next, 0, none⟩)) (s.push (rowO e false 0 l))) : SV X P ro g (.box e x) s R :=
  SV.val (fun t' ht => by simp only [evalOp, opv_og, ht, hx, newRow_eq]; rfl) (Nat.le_succ _) hR
theorem SV.load {t : TypeId} {x : Operand} [h : TCell P t] {ν o : Nat} {v : Value} (hx : og g x = .pointer (some ⟨ν, o, none⟩)) (hv : ldCell s ν o = some v) (hR : R v s) : SV X P ro g (.load t x) s R :=
  SV.pure (fun t' ht => by simp only [evalOp, opv_og, ht, hx, ldVar, h.ag, hv]) hR
theorem SV.loadA {t : TypeId} {x : Operand} {n : Nat} [h : TAgg P t n] {ν o : Nat} {l : List Value} (hx : og g x = .pointer (some ⟨ν, o, none⟩)) (hv : ldCells s ν o n = some l) (hR : R (.agg l.toArray) s) : SV X P ro g (.load t x) s R :=
  SV.pure (fun t' ht => by simp only [evalOp, opv_og, ht, hx, ldVar, h.ag, h.sz, hv]) hR
theorem stCells_next {ν o : Nat} {vs : List Value} {s' : St} (h : stCells ro s ν o vs = some s') : s'.next = s.next := by
  unfold stCells at h
  split at h
  · cases h; rfl
  · split at h
    · rename_i b hb
      cases hc : (Nat.ble ro ν && Nat.ble (o + (_ :: _ : List Value).length) b.n && (_ :: _ : List Value).all oneC) with
      | false => rw [hc] at h; cases h
      | true => rw [hc] at h; simp only [cond_true, T.setsK_eq, setObjK_eq] at h; cases h; rfl
    · cases h
theorem SV.store {t : TypeId} {a x : Operand} {n : Nat} (hn : szOf P t = some n) {ν o : Nat} {l : List Value} {s' : St} (ha : og g a = .pointer (some ⟨ν, o, none⟩)) (hl : cellsV (og g x) = some l) (hln : l.length = n)
    (hs : stCells ro s ν o l = some s') (hR : R und s') : SV X P ro g (.store t a x) s R :=
  SV.val (fun t' ht => by simp only [evalOp, opv_og, ht, ha, stVar, hn, hl, show Nat.beq l.length n = true from by rw [hln]; exact Nat.beq_refl n, cond_true, hs]) (by rw [stCells_next hs]; exact Nat.le_refl _) hR

/-! ### Calls -/

theorem SV.call {f : Operand} {as : Array Operand} {ts : Array TypeId} {fn : FuncId} {first cap : Array Value} {args : List Value} (hf : og g f = .func (.func fn) first cap) (ha : first.toList ++ (as.toList.map (og g) ++ cap.toList) = args)
    (h : RunV X P ro fn args s (fun v s' => s.next ≤ s'.next ∧ R v s')) : SV X P ro g (.call ⟨.value f, as, ts⟩) s R := by
  obtain ⟨v, s', ⟨K, hK⟩, hn, hR⟩ := h
  refine ⟨v, s', ⟨K, fun j hj t ht => ?_⟩, hR⟩
  have e : opv t = og g := by funext x; rw [opv_og, ht]
  simp only [stepOp, evalOp, e, hf, callTarget, ha, hK j hj, show Nat.ble s.next s'.next = true from Nat.ble_eq.mpr hn, cond_true]

theorem RunV.mono {f : FuncId} {args : List Value} {R' : Value → St → Prop} (h : RunV X P ro f args s R) (hm : ∀ v s', R v s' → R' v s') : RunV X P ro f args s R' := by
  obtain ⟨v, s', h1, h2⟩ := h; exact ⟨v, s', h1, hm _ _ h2⟩

/-! ### Regions whose order is drawn -/

/-- No reading stands beside an act that is not ordered against it. -/
def calm (P : Program) (bef : List Nat) (l : List (Nat × Oper)) : Bool :=
  l.all fun x => l.all fun y => match clsOf P x.2.op, clsOf P y.2.op with
    | .read, .act => ordered bef x.1 y.1
    | _, _ => true
theorem stillR_calm {bef : List Nat} {l : List (Nat × Oper)} (h : calm P bef l = true) {log : List Rec} (hl : ∀ r ∈ log, (r.i, r.o) ∈ l) : stillR P ro bef log = true := by
  unfold stillR
  rw [List.all_eq_true]
  intro r hr
  unfold isRead
  cases hc : clsOf P r.o.op <;> simp only [Bool.not_false, Bool.true_or]
  rw [Bool.or_eq_true, List.all_eq_true]
  right
  intro e he
  unfold isAct
  cases hd : clsOf P e.o.op <;> simp only [Bool.not_false, Bool.true_or]
  unfold calm at h
  rw [List.all_eq_true] at h
  have h1 := h _ (hl r hr)
  rw [List.all_eq_true] at h1
  have h2 := h1 _ (hl e he)
  simp only [hc, hd] at h2
  simp only [h2, Bool.or_true, Bool.true_or]

def WD (X : CallE) (P : Program) (ro : Nat) (nt : Nat) (all : List Oper) (l : List (Nat × Oper)) (g : Gm) (ds : List Deferred) (s : St) (Q : Gm → List Deferred → St → Prop) : Prop :=
  ∀ t : T Value, t.get = g → ∃ (a' : AAct) (s' : St), (∃ K, ∀ j, K ≤ j → ∃ log, evalDraw P ro (evX X P ro j) nt all l ⟨t, ds⟩ s = some (a', s', log) ∧ ∀ r ∈ log, (r.i, r.o) ∈ l) ∧ Q a'.tm.get a'.defers s'

section
variable {nt i : Nat} {all : List Oper} {rest : List (Nat × Oper)} {ds : List Deferred} {Q : Gm → List Deferred → St → Prop}
  {op : Op} {ty : TypeId} {pos : String} {after : Array Edge} {d : Nat}

theorem WD.nil (h : Q g ds s) : WD X P ro nt all [] g ds s Q := fun t ht => ⟨⟨t, ds⟩, s, ⟨0, fun _ _ => ⟨[], rfl, fun r hr => by cases hr⟩⟩, by subst ht; exact h⟩

theorem mem_cons_log {x : Nat × Oper} {l : List (Nat × Oper)} {log : List Rec} {r0 : Rec} (h0 : (r0.i, r0.o) = x) (h : ∀ r ∈ log, (r.i, r.o) ∈ l) : ∀ r ∈ r0 :: log, (r.i, r.o) ∈ x :: l := fun r hr => by
  rcases List.mem_cons.mp hr with rfl | hr
  · rw [h0]; exact List.mem_cons_self
  · exact List.mem_cons_of_mem _ (h r hr)

theorem WD.cons (h : SV X P ro g op s (fun v s' => WD X P ro nt all rest (up g d v) ds s' Q)) (hd : d < nt) :
    WD X P ro nt all ((i, ⟨some d, op, ty, pos, after, none⟩) :: rest) g ds s Q := fun t ht => by
  obtain ⟨v, s', ⟨K, hK⟩, hR⟩ := h
  obtain ⟨a1, s1, ⟨K2, hK2⟩, hQ⟩ := hR (t.set d v) (by rw [get_up, ht])
  refine ⟨a1, s1, ⟨max K K2, fun j hj => ?_⟩, hQ⟩
  obtain ⟨log, h1, h2⟩ := hK2 j (by omega)
  refine ⟨⟨i, ⟨some d, op, ty, pos, after, none⟩, t, s, s', v, true⟩ :: log, ?_, mem_cons_log rfl h2⟩
  simp only [evalDraw, wantedA, hK j (by omega) t ht, putK_yes hd, h1]

theorem WD.cons0 (h : SV X P ro g op s (fun _ s' => WD X P ro nt all rest g ds s' Q)) :
    WD X P ro nt all ((i, ⟨none, op, ty, pos, after, none⟩) :: rest) g ds s Q := fun t ht => by
  obtain ⟨v, s', ⟨K, hK⟩, hR⟩ := h
  obtain ⟨a1, s1, ⟨K2, hK2⟩, hQ⟩ := hR t ht
  refine ⟨a1, s1, ⟨max K K2, fun j hj => ?_⟩, hQ⟩
  obtain ⟨log, h1, h2⟩ := hK2 j (by omega)
  refine ⟨⟨i, ⟨none, op, ty, pos, after, none⟩, t, s, s', v, true⟩ :: log, ?_, mem_cons_log rfl h2⟩
  simp only [evalDraw, wantedA, hK j (by omega) t ht, putK, h1]

theorem WD.guard {jj dj : Nat} {w b : Bool} {oj : Oper} (ho : nth all jj = some oj) (hj : oj.dst = some dj) (hb : g dj = some (.bool b))
    (h1 : b = w → SV X P ro g op s (fun v s' => WD X P ro nt all rest (up g d v) ds s' Q)) (h2 : b = !w → WD X P ro nt all rest (up g d und) ds s Q) (hd : d < nt) :
    WD X P ro nt all ((i, ⟨some d, op, ty, pos, after, some (jj, w)⟩) :: rest) g ds s Q := fun t ht => by
  by_cases hw : b = w
  · obtain ⟨v, s', ⟨K, hK⟩, hR⟩ := h1 hw
    obtain ⟨a1, s1, ⟨K2, hK2⟩, hQ⟩ := hR (t.set d v) (by rw [get_up, ht])
    refine ⟨a1, s1, ⟨max K K2, fun j hj' => ?_⟩, hQ⟩
    obtain ⟨log, l1, l2⟩ := hK2 j (by omega)
    refine ⟨⟨i, ⟨some d, op, ty, pos, after, some (jj, w)⟩, t, s, s', v, true⟩ :: log, ?_, mem_cons_log rfl l2⟩
    have e : (b == w) = true := by simpa using hw
    simp only [evalDraw, wantedA, ho, hj, ht, hb, e, hK j (by omega) t ht, putK_yes hd, l1]
  · obtain ⟨a1, s1, ⟨K2, hK2⟩, hQ⟩ := h2 (by cases b <;> cases w <;> simp_all) (t.set d und) (by rw [get_up, ht])
    refine ⟨a1, s1, ⟨K2, fun j hj' => ?_⟩, hQ⟩
    obtain ⟨log, l1, l2⟩ := hK2 j (by omega)
    refine ⟨⟨i, ⟨some d, op, ty, pos, after, some (jj, w)⟩, t, s, s, und, false⟩ :: log, ?_, mem_cons_log rfl l2⟩
    have e : (b == w) = false := by simpa using hw
    simp only [evalDraw, wantedA, ho, hj, ht, hb, e, putK_yes hd, l1]

/-- The operations by their places. -/
def pickOps (ops : List Oper) : List Nat → List (Nat × Oper)
  | [] => []
  | i :: l => match nth ops i with | some o => (i, o) :: pickOps ops l | none => pickOps ops l

theorem WC.draw {id : Nat} {ops : Array Oper} (l : List Nat) {Q : Ex → Gm → List Deferred → St → Prop} (hd : drawOk P ops = true) (hl : canonOf P ops = pickOps ops.toList l) (hc : calm P (befOf ops) (pickOps ops.toList l) = true)
    (h : WD X P ro nt ops.toList (pickOps ops.toList l) g ds s (Q .normal)) : WC X P ro nt (.region id ops true) g ds s Q := fun t ht => by
  obtain ⟨a1, s1, ⟨K, hK⟩, hQ⟩ := h t ht
  refine ⟨⟨.normal, a1, s1⟩, ⟨K + 1, fun k j hk hj => ?_⟩, hQ⟩
  obtain ⟨k, rfl⟩ : ∃ m, k = m + 1 := ⟨k - 1, by omega⟩
  obtain ⟨log, h1, h2⟩ := hK j (by omega)
  simp only [evalC, cond_true, hd, hl, h1, stillR_calm hc h2]
end
end
end Go.Ab

namespace Go.Ab
noncomputable section

/-! ### A heap of rows: what is known of the state's blocks -/

inductive Obj where
  /-- A block of one's own: its cells; of an element's size. -/
  | row (es : Nat) (vs : List Value)
  /-- A block that is only read: some of its cells. -/
  | rd (c : Nat → Option Value)
  | map (l : List (Value × Value))

abbrev Hp := Nat → Option Obj
def Hp.up (H : Hp) (ν : Nat) (o : Obj) : Hp := fun μ => if μ = ν then some o else H μ
theorem Hp.up_same {H : Hp} {ν : Nat} {o : Obj} : (H.up ν o) ν = some o := if_pos rfl
theorem Hp.up_ne {H : Hp} {ν μ : Nat} {o : Obj} {r : Option Obj} (h : μ ≠ ν) (h2 : H μ = r) : (H.up ν o) μ = r := (if_neg h).trans h2
theorem Hp.up_up {H : Hp} {ν : Nat} {o o' : Obj} : (H.up ν o).up ν o' = H.up ν o' := by funext μ; unfold Hp.up; split <;> rfl
theorem Hp.up_self {H : Hp} {ν : Nat} {o : Obj} (h : H ν = some o) : H.up ν o = H := by
  funext μ; unfold Hp.up; split
  · rename_i e; subst e; exact h.symm
  · rfl

def OkB (b : Blk) (es : Nat) (vs : List Value) : Prop :=
  b.dead = false ∧ b.str = false ∧ b.n = vs.length ∧ (b.opn = true → b.es = es) ∧ ∀ i v, vs[i]? = some v → cellAt b i = some v

def OkO (ro : Nat) (s : St) (ν : Nat) : Obj → Prop
  | .row es vs => ro ≤ ν ∧ ∃ b, s.heap.get ν = some (.cells b) ∧ OkB b es vs
  | .rd c => ∀ i v, c i = some v → ldCell s ν i = some v
  | .map l => ro ≤ ν ∧ ∃ es c, s.heap.get ν = some (.map es c) ∧ es.map (fun e => (e.key, e.val)) = l

structure Models (ro : Nat) (s : St) (H : Hp) : Prop where
  low : ro ≤ s.next
  ok : ∀ ν o, H ν = some o → ν < s.next ∧ OkO ro s ν o

theorem OkO.congr {ro : Nat} {s s' : St} {ν : Nat} {o : Obj} (h : OkO ro s ν o) (he : s'.heap.get ν = s.heap.get ν) : OkO ro s' ν o := by
  cases o with
  | row es vs => obtain ⟨h1, b, h2, h3⟩ := h; exact ⟨h1, b, he.trans h2, h3⟩
  | rd c => exact fun i v e => by have := h i v e; unfold ldCell liveBlk at this ⊢; rw [he]; exact this
  | map l => obtain ⟨h0, es, c, h1, h2⟩ := h; exact ⟨h0, es, c, he.trans h1, h2⟩

theorem Models.sub {ro : Nat} {s : St} {H H' : Hp} (h : Models ro s H) (hs : ∀ ν o, H' ν = some o → H ν = some o) : Models ro s H' := ⟨h.low, fun ν o e => h.ok ν o (hs ν o e)⟩
theorem Models.fresh {ro : Nat} {s : St} {H : Hp} (h : Models ro s H) : H s.next = none := by
  cases e : H s.next with
  | none => rfl
  | some o => have := (h.ok _ _ e).1; omega
theorem Models.fresh_ne {ro : Nat} {s : St} {H : Hp} (h : Models ro s H) {ν : Nat} {o : Obj} (e : H ν = some o) : ν ≠ s.next := by
  have := (h.ok _ _ e).1; omega

theorem Models.push {ro : Nat} {s : St} {H : Hp} (h : Models ro s H) {O : AObj} {o : Obj} (ho : OkO ro (s.push O) s.next o) : Models ro (s.push O) (H.up s.next o) where
  low := by rw [St.push_next]; have := h.low; omega
  ok := fun ν o' e => by
    rw [St.push_next]
    unfold Hp.up at e
    by_cases hν : ν = s.next
    · rw [if_pos hν] at e; cases e; subst hν; exact ⟨by omega, ho⟩
    · rw [if_neg hν] at e
      obtain ⟨h1, h2⟩ := h.ok ν o' e
      exact ⟨by omega, h2.congr (by rw [St.push_get, if_neg hν])⟩

theorem Models.put {ro : Nat} {s : St} {H : Hp} (h : Models ro s H) {ν : Nat} {O : AObj} {o : Obj} (hν : ν < s.next) (ho : OkO ro (s.put ν O) ν o) : Models ro (s.put ν O) (H.up ν o) where
  low := h.low
  ok := fun μ o' e => by
    show μ < s.next ∧ _
    unfold Hp.up at e
    by_cases hm : μ = ν
    · rw [if_pos hm] at e; cases e; subst hm; exact ⟨hν, ho⟩
    · rw [if_neg hm] at e
      obtain ⟨h1, h2⟩ := h.ok μ o' e
      exact ⟨h1, h2.congr (by rw [St.put_get, if_neg hm])⟩

theorem cellAt_rowO {vs : List Value} {i : Nat} {v : Value} {elem : TypeId} {opn : Bool} {es : Nat} {str dead : Bool} {z : List Value} (h : vs[i]? = some v) :
    cellAt { cells := T.sets vs 0 .leaf, n := vs.length, z, elem, opn, es, str, dead } i = some v := by
  have hi : i < vs.length := (List.getElem?_eq_some_iff.mp h).1
  unfold cellAt
  rw [show Nat.blt i vs.length = true from Nat.blt_eq.mpr hi, cond_true]
  rw [T.get_sets, if_pos ⟨Nat.zero_le _, by omega⟩]
  simp only [Nat.sub_zero, h]

theorem okB_row {elem : TypeId} {opn : Bool} {es es' : Nat} {vs : List Value} (h : opn = true → es' = es) :
    OkB { cells := T.sets vs 0 .leaf, n := vs.length, z := [], elem, opn, es := es', str := false, dead := false } es vs := ⟨rfl, rfl, rfl, h, fun _ _ e => cellAt_rowO e⟩

theorem ldCell_row {ro : Nat} {s : St} {H : Hp} (h : Models ro s H) {ν es o : Nat} {vs : List Value} {v : Value} (hH : H ν = some (.row es vs)) (hv : vs[o]? = some v) : ldCell s ν o = some v := by
  obtain ⟨_, _, b, h1, h2, _, _, _, h3⟩ := h.ok ν _ hH
  simp only [ldCell, liveBlk, h1, h2, cond_false]
  exact h3 o v hv

theorem cellsFrom_of {b : Blk} : ∀ (n o : Nat) (l : List Value), l.length = n → (∀ i v, l[i]? = some v → cellAt b (o + i) = some v) → cellsFrom b o n = some l
  | 0, o, l, hl, h => by
    obtain rfl := List.length_eq_zero_iff.mp hl
    rfl
  | n + 1, o, l, hl, h => by
    cases l with
    | nil => simp at hl
    | cons a l =>
      have h0 := h 0 a rfl
      have hr := cellsFrom_of (b := b) n (o + 1) l (by simpa using hl) (fun i v e => by
        have := h (i + 1) v (by simpa using e)
        rwa [show o + (i + 1) = o + 1 + i by omega] at this)
      simp only [cellsFrom]
      rw [Nat.add_zero] at h0
      rw [h0, hr]

theorem ldCells_row {ro : Nat} {s : St} {H : Hp} (h : Models ro s H) {ν es o n : Nat} {vs l : List Value} (hH : H ν = some (.row es vs)) (hl : l.length = n) (hv : ∀ i v, l[i]? = some v → vs[o + i]? = some v) : ldCells s ν o n = some l := by
  obtain ⟨_, _, b, h1, h2, _, _, _, h3⟩ := h.ok ν _ hH
  cases n with
  | zero => obtain rfl := List.length_eq_zero_iff.mp hl; rfl
  | succ n =>
    simp only [ldCells, liveBlk, h1, h2, cond_false]
    exact cellsFrom_of _ _ _ hl fun i v e => h3 _ _ (hv i v e)

/-- The cells from o on are these. -/
def splice (vs : List Value) (o : Nat) (l : List Value) : List Value := vs.take o ++ l ++ vs.drop (o + l.length)
theorem splice_length {vs l : List Value} {o : Nat} (h : o + l.length ≤ vs.length) : (splice vs o l).length = vs.length := by
  unfold splice; simp; omega
theorem splice_one {vs : List Value} {o : Nat} {v : Value} (h : o < vs.length) : splice vs o [v] = vs.set o v := by
  unfold splice
  rw [List.set_eq_take_append_cons_drop, if_pos h]; simp
theorem splice_get {vs l : List Value} {o : Nat} (h : o + l.length ≤ vs.length) (i : Nat) : (splice vs o l)[i]? = if o ≤ i ∧ i < o + l.length then l[i - o]? else vs[i]? := by
  unfold splice
  rw [List.getElem?_append, List.getElem?_append]
  simp only [List.length_append, List.length_take, Nat.min_eq_left (show o ≤ vs.length by omega)]
  by_cases h1 : i < o
  · rw [if_pos (by omega), if_pos h1, if_neg (by omega), List.getElem?_take, if_pos h1]
  · by_cases h2 : i < o + l.length
    · rw [if_pos h2, if_neg h1, if_pos ⟨by omega, h2⟩]
    · rw [if_neg h2, if_neg (by omega), List.getElem?_drop]
      congr 1; omega

theorem stCells_row {ro : Nat} {s : St} {H : Hp} (h : Models ro s H) {ν es o : Nat} {vs l : List Value} (hH : H ν = some (.row es vs)) (hl : o + l.length ≤ vs.length) (h1 : l.all oneC = true) :
    ∃ s', stCells ro s ν o l = some s' ∧ Models ro s' (H.up ν (.row es (splice vs o l))) := by
  obtain ⟨hn, hro, b, hb, h2, h3, h4, h5, h6⟩ := h.ok ν _ hH
  cases l with
  | nil =>
    refine ⟨s, rfl, ?_⟩
    rw [show splice vs o [] = vs by unfold splice; simp, Hp.up_self hH]
    exact h
  | cons a l =>
    refine ⟨s.put ν (.cells { b with cells := T.sets (a :: l) o b.cells }), ?_, h.put hn ⟨hro, { b with cells := T.sets (a :: l) o b.cells }, by rw [St.put_get, if_pos rfl], h2, h3, ?_, h5, ?_⟩⟩
    · simp only [stCells, liveBlk, hb, h2, cond_false]
      rw [show (Nat.ble ro ν && Nat.ble (o + (a :: l).length) b.n && (a :: l).all oneC) = true from by
        rw [Bool.and_eq_true, Bool.and_eq_true, Nat.ble_eq, Nat.ble_eq]; exact ⟨⟨hro, by rw [h4]; exact hl⟩, h1⟩, cond_true]
      simp only [T.setsK_eq, setObjK_eq]
      rfl
    · exact h4.trans (splice_length hl).symm
    · intro i v e
      rw [splice_get hl] at e
      have hi : i < b.n := by
        rw [h4]
        by_cases hc : o ≤ i ∧ i < o + (a :: l).length
        · omega
        · rw [if_neg hc] at e; exact (List.getElem?_eq_some_iff.mp e).1
      unfold cellAt
      simp only [show Nat.blt i b.n = true from Nat.blt_eq.mpr hi, cond_true]
      rw [T.get_sets]
      by_cases hc : o ≤ i ∧ i < o + (a :: l).length
      · rw [if_pos hc] at e
        rw [if_pos hc, e]
      · rw [if_neg hc] at e
        rw [if_neg hc]
        have := h6 i v e
        unfold cellAt at this
        simpa only [show Nat.blt i b.n = true from Nat.blt_eq.mpr hi, cond_true] using this

/-! ### Operations on memory by what is known of it -/

section
variable {X : CallE} {P : Program} {ro : Nat} {g : Gm} {s : St} {R : Value → St → Prop} {H : Hp}

theorem SV.loadM {t : TypeId} {x : Operand} [TCell P t] {ν o es : Nat} {vs : List Value} {v : Value} (hM : Models ro s H) (hx : og g x = .pointer (some ⟨ν, o, none⟩)) (hH : H ν = some (.row es vs)) (hv : vs[o]? = some v) (hR : R v s) :
    SV X P ro g (.load t x) s R := SV.load hx (ldCell_row hM hH hv) hR
theorem SV.loadR {t : TypeId} {x : Operand} [TCell P t] {ν o : Nat} {c : Nat → Option Value} {v : Value} (hM : Models ro s H) (hx : og g x = .pointer (some ⟨ν, o, none⟩)) (hH : H ν = some (.rd c)) (hv : c o = some v) (hR : R v s) :
    SV X P ro g (.load t x) s R := SV.load hx ((hM.ok _ _ hH).2 o v hv) hR
theorem SV.loadMA {t : TypeId} {x : Operand} {n : Nat} [TAgg P t n] {ν o es : Nat} {vs l : List Value} (hM : Models ro s H) (hx : og g x = .pointer (some ⟨ν, o, none⟩)) (hH : H ν = some (.row es vs)) (hl : l.length = n)
    (hv : ∀ i v, l[i]? = some v → vs[o + i]? = some v) (hR : R (.agg l.toArray) s) : SV X P ro g (.load t x) s R := SV.loadA hx (ldCells_row hM hH hl hv) hR
theorem SV.storeM {t : TypeId} {a x : Operand} [h : TCell P t] {ν o es : Nat} {vs : List Value} {v : Value} (hM : Models ro s H) (ha : og g a = .pointer (some ⟨ν, o, none⟩)) (hx : cellsV (og g x) = some [v]) (h1 : oneC v = true)
    (hH : H ν = some (.row es vs)) (ho : o < vs.length) (hR : ∀ s', s.next ≤ s'.next → Models ro s' (H.up ν (.row es (vs.set o v))) → R und s') : SV X P ro g (.store t a x) s R := by
  obtain ⟨s', h2, h3⟩ := stCells_row hM hH (l := [v]) (o := o) ho (by simp [h1])
  rw [splice_one ho] at h3
  exact SV.store h.sz ha hx rfl h2 (hR s' (by rw [stCells_next h2]; exact Nat.le_refl _) h3)
theorem SV.storeMA {t : TypeId} {a x : Operand} {n : Nat} [h : TAgg P t n] {ν o es : Nat} {vs l : List Value} (hM : Models ro s H) (ha : og g a = .pointer (some ⟨ν, o, none⟩)) (hx : cellsV (og g x) = some l) (hl : l.length = n) (h1 : l.all oneC = true)
    (hH : H ν = some (.row es vs)) (ho : o + n ≤ vs.length) (hR : ∀ s', s.next ≤ s'.next → Models ro s' (H.up ν (.row es (splice vs o l))) → R und s') : SV X P ro g (.store t a x) s R := by
  obtain ⟨s', h2, h3⟩ := stCells_row hM hH (l := l) (o := o) (by rw [hl]; exact ho) h1
  exact SV.store h.sz ha hx hl h2 (hR s' (by rw [stCells_next h2]; exact Nat.le_refl _) h3)

theorem SV.allocM {e : TypeId} {z : List Value} [h : TZero P e z] (hM : Models ro s H) (hR : ∀ a s', H a = none → (∀ ν o, H ν = some o → ν ≠ a) → s.next ≤ s'.next → Models ro s' (H.up a (.row 0 z)) → R (.pointer (some ⟨a, 0, none⟩)) s') : SV X P ro g (.alloc e) s R :=
  SV.alloc (hR _ _ hM.fresh (fun _ _ h => hM.fresh_ne h) (Nat.le_succ _) (hM.push ⟨hM.low, _, by rw [St.push_get, if_pos rfl]; rfl, okB_row (fun h => by cases h)⟩))
theorem SV.boxM {e : TypeId} {x : Operand} {l : List Value} (hM : Models ro s H) (hx : cellsV (og g x) = some l) (hR : ∀ a s', H a = none → (∀ ν o, H ν = some o → ν ≠ a) → s.next ≤ s'.next → Models ro s' (H.up a (.row 0 l)) → R (.pointer (some ⟨a, 0, none⟩)) s') : SV X P ro g (.box e x) s R :=
  SV.box hx (hR _ _ hM.fresh (fun _ _ h => hM.fresh_ne h) (Nat.le_succ _) (hM.push ⟨hM.low, _, by rw [St.push_get, if_pos rfl]; rfl, okB_row (fun h => by cases h)⟩))

/-- A contract: the call returns, and what was known of memory is known still, but for what the contract says. -/
def Sp (X : CallE) (P : Program) (ro : Nat) (f : FuncId) (args : List Value) (s : St) (Post : Value → Hp → Prop) : Prop :=
  RunV X P ro f args s fun v s' => s.next ≤ s'.next ∧ ∃ H', Models ro s' H' ∧ Post v H'

theorem Sp.mono {f : FuncId} {args : List Value} {Post Post' : Value → Hp → Prop} (h : Sp X P ro f args s Post) (hm : ∀ v H', Post v H' → Post' v H') : Sp X P ro f args s Post' :=
  RunV.mono h fun v s' ⟨h1, H', h2, h3⟩ => ⟨h1, H', h2, hm v H' h3⟩

theorem SV.callM {f : Operand} {as : Array Operand} {ts : Array TypeId} {fn : FuncId} {first cap : Array Value} {args : List Value} {Post : Value → Hp → Prop} (hf : og g f = .func (.func fn) first cap)
    (ha : first.toList ++ (as.toList.map (og g) ++ cap.toList) = args) (h : Sp X P ro fn args s Post) (hR : ∀ v s' H', s.next ≤ s'.next → Models ro s' H' → Post v H' → R v s') : SV X P ro g (.call ⟨.value f, as, ts⟩) s R :=
  SV.call hf ha (RunV.mono h fun v s' ⟨h1, H', h2, h3⟩ => ⟨h1, hR v s' H' h1 h2 h3⟩)

def FinM (P : Program) (ro : Nat) (n : Nat) (fn : Func) (Post : Value → Hp → Prop) : Ex → Gm → List Deferred → St → Prop := Fin P fn fun v s' => n ≤ s'.next ∧ ∃ H', Models ro s' H' ∧ Post v H'

theorem Sp.of_body {f : FuncId} {args : List Value} {fn : Func} {c : Code} {Post : Value → Hp → Prop} (hX : X f args s = none) (hf : P.funcs[f]? = some fn) (hb : fn.body = some c) {nt : Nat} (hnt : fn.ntmps = nt) (hl : args.length ≤ nt)
    (h : WC X P ro nt c (argsG args) [] s (FinM P ro s.next fn Post)) : Sp X P ro f args s Post := RunV.of_body hX hf hb (by rw [hnt]; exact hl) (by rw [hnt]; exact h)

/-- The ends of a body: results in temporaries. -/
theorem fin_none {fn : Func} {n : Nat} {Post : Value → Hp → Prop} {e : Ex} (hr : fn.results = #[]) (he : (match e with | .normal => True | .ret => True | _ => False)) (hn : n ≤ s.next) (hM : Models ro s H) (hP : Post (.tuple #[]) H) : FinM P ro n fn Post e g [] s :=
  ⟨he, rfl, _, fun t ht => by simp only [retOf, hr, resultsOf], hn, H, hM, hP⟩
theorem fin_one {fn : Func} {n t : Nat} {Post : Value → Hp → Prop} {e : Ex} {v : Value} (hr : fn.results = #[.tmp t]) (he : (match e with | .normal => True | .ret => True | _ => False)) (hv : g t = some v) (hn : n ≤ s.next) (hM : Models ro s H) (hP : Post v H) : FinM P ro n fn Post e g [] s :=
  ⟨he, rfl, v, fun t' ht => by simp only [retOf, hr, resultsOf, ht, hv], hn, H, hM, hP⟩
theorem fin_two {fn : Func} {n t u : Nat} {Post : Value → Hp → Prop} {e : Ex} {v w : Value} (hr : fn.results = #[.tmp t, .tmp u]) (he : (match e with | .normal => True | .ret => True | _ => False)) (hv : g t = some v) (hw : g u = some w) (hn : n ≤ s.next) (hM : Models ro s H)
    (hP : Post (.tuple #[v, w]) H) : FinM P ro n fn Post e g [] s :=
  ⟨he, rfl, _, fun t' ht => by simp only [retOf, hr, resultsOf, ht, hv, hw], hn, H, hM, hP⟩
theorem fin_cellA {fn : Func} {n a ν es k : Nat} {t : TypeId} {Post : Value → Hp → Prop} {e : Ex} {vs : List Value} [h : TAgg P t k] (hr : fn.results = #[.cell a t]) (he : (match e with | .normal => True | .ret => True | _ => False))
    (hv : g a = some (.pointer (some ⟨ν, 0, none⟩))) (hH : H ν = some (.row es vs)) (hk : vs.length = k) (hn : n ≤ s.next) (hM : Models ro s H) (hP : Post (.agg vs.toArray) H) : FinM P ro n fn Post e g [] s :=
  ⟨he, rfl, _, fun t' ht => by simp only [retOf, hr, resultsOf, ht, hv, ldVar, h.ag, h.sz, ldCells_row hM hH hk (fun i v e => by rw [Nat.zero_add]; exact e)], hn, H, hM, hP⟩
end

/-! ### Rows of whole numbers -/

def ints (L : List Int) : Obj := .row 1 (L.map (Value.int .i64))
def rd (L : List Int) (i : Int) : Int := L.getD i.toNat 0
theorem ints_get {L : List Int} {o : Nat} {i : Int} (h0 : 0 ≤ i) (h1 : (o : Int) + i < L.length) : (L.map (Value.int .i64))[o + i.toNat * 1]? = some (.int .i64 (rd L (o + i))) := by
  rw [List.getElem?_map]
  have e : o + i.toNat * 1 = ((o : Int) + i).toNat := by omega
  rw [e]
  have h : ((o : Int) + i).toNat < L.length := by omega
  unfold rd
  rw [List.getElem?_eq_getElem h, List.getD_eq_getElem?_getD, List.getElem?_eq_getElem h]; rfl
theorem ints_get0 {L : List Int} {i : Int} (h0 : 0 ≤ i) (h1 : i < L.length) : (L.map (Value.int .i64))[0 + i.toNat * 1]? = some (.int .i64 (rd L i)) := by
  have := ints_get (L := L) (o := 0) h0 (by simpa using h1)
  simpa using this
theorem ints_set {L : List Int} {i : Int} {v : Int} (h0 : 0 ≤ i) (h1 : i < L.length) : (L.map (Value.int .i64)).set (0 + i.toNat * 1) (.int .i64 v) = (L.set i.toNat v).map (Value.int .i64) := by
  rw [List.map_set]; congr 1; omega

end
end Go.Ab

namespace Go.Ab
noncomputable section

/-! ### Tests that are held true or false -/

section
variable {X : CallE} {P : Program} {ro : Nat} {nt : Nat} {all rest : List Oper} {g : Gm} {ds : List Deferred} {s : St} {Q : Ex → Gm → List Deferred → St → Prop} {R : Value → St → Prop}
  {op : Op} {ty : TypeId} {pos : String} {after : Array Edge} {d : Nat} {i dj : Nat} {w b : Bool} {oj : Oper} {p : Prop} [Decidable p]

theorem WO.guardY (ho : nth all i = some oj) (hj : oj.dst = some dj) (hb : g dj = some (.bool b)) (hw : b = w)
    (h1 : SV X P ro g op s (fun v s' => WO X P ro nt all rest (up g d v) ds s' Q)) (hd : d < nt) : WO X P ro nt all (⟨some d, op, ty, pos, after, some (i, w)⟩ :: rest) g ds s Q :=
  WO.guard ho hj hb (fun _ => h1) (fun h => by subst hw; cases b <;> cases h) hd
theorem WO.guardN (ho : nth all i = some oj) (hj : oj.dst = some dj) (hb : g dj = some (.bool b)) (hw : b = !w)
    (h2 : WO X P ro nt all rest (up g d und) ds s Q) (hd : d < nt) : WO X P ro nt all (⟨some d, op, ty, pos, after, some (i, w)⟩ :: rest) g ds s Q :=
  WO.guard ho hj hb (fun h => by subst h; cases b <;> cases hw) (fun _ => h2) hd
theorem WO.guardDT (ho : nth all i = some oj) (hj : oj.dst = some dj) (hb : g dj = some (.bool (decide p)))
    (h1 : p → decide p = true → SV X P ro g op s (fun v s' => WO X P ro nt all rest (up g d v) ds s' Q)) (h2 : ¬p → decide p = false → WO X P ro nt all rest (up g d und) ds s Q) (hd : d < nt) :
    WO X P ro nt all (⟨some d, op, ty, pos, after, some (i, true)⟩ :: rest) g ds s Q :=
  WO.guard ho hj hb (fun h => h1 (of_decide_eq_true h) h) (fun h => h2 (of_decide_eq_false h) h) hd
theorem WO.guardDF (ho : nth all i = some oj) (hj : oj.dst = some dj) (hb : g dj = some (.bool (decide p)))
    (h1 : ¬p → decide p = false → SV X P ro g op s (fun v s' => WO X P ro nt all rest (up g d v) ds s' Q)) (h2 : p → decide p = true → WO X P ro nt all rest (up g d und) ds s Q) (hd : d < nt) :
    WO X P ro nt all (⟨some d, op, ty, pos, after, some (i, false)⟩ :: rest) g ds s Q :=
  WO.guard ho hj hb (fun h => h1 (of_decide_eq_false h) h) (fun h => h2 (of_decide_eq_true h) h) hd

variable {restD : List (Nat × Oper)} {QD : Gm → List Deferred → St → Prop} {ii : Nat}
theorem WD.guardY (ho : nth all i = some oj) (hj : oj.dst = some dj) (hb : g dj = some (.bool b)) (hw : b = w)
    (h1 : SV X P ro g op s (fun v s' => WD X P ro nt all restD (up g d v) ds s' QD)) (hd : d < nt) : WD X P ro nt all ((ii, ⟨some d, op, ty, pos, after, some (i, w)⟩) :: restD) g ds s QD :=
  WD.guard ho hj hb (fun _ => h1) (fun h => by subst hw; cases b <;> cases h) hd
theorem WD.guardN (ho : nth all i = some oj) (hj : oj.dst = some dj) (hb : g dj = some (.bool b)) (hw : b = !w)
    (h2 : WD X P ro nt all restD (up g d und) ds s QD) (hd : d < nt) : WD X P ro nt all ((ii, ⟨some d, op, ty, pos, after, some (i, w)⟩) :: restD) g ds s QD :=
  WD.guard ho hj hb (fun h => by subst h; cases b <;> cases hw) (fun _ => h2) hd
theorem WD.guardDT (ho : nth all i = some oj) (hj : oj.dst = some dj) (hb : g dj = some (.bool (decide p)))
    (h1 : p → decide p = true → SV X P ro g op s (fun v s' => WD X P ro nt all restD (up g d v) ds s' QD)) (h2 : ¬p → decide p = false → WD X P ro nt all restD (up g d und) ds s QD) (hd : d < nt) :
    WD X P ro nt all ((ii, ⟨some d, op, ty, pos, after, some (i, true)⟩) :: restD) g ds s QD :=
  WD.guard ho hj hb (fun h => h1 (of_decide_eq_true h) h) (fun h => h2 (of_decide_eq_false h) h) hd
theorem WD.guardDF (ho : nth all i = some oj) (hj : oj.dst = some dj) (hb : g dj = some (.bool (decide p)))
    (h1 : ¬p → decide p = false → SV X P ro g op s (fun v s' => WD X P ro nt all restD (up g d v) ds s' QD)) (h2 : p → decide p = true → WD X P ro nt all restD (up g d und) ds s QD) (hd : d < nt) :
    WD X P ro nt all ((ii, ⟨some d, op, ty, pos, after, some (i, false)⟩) :: restD) g ds s QD :=
  WD.guard ho hj hb (fun h => h1 (of_decide_eq_false h) h) (fun h => h2 (of_decide_eq_true h) h) hd

variable {c x y : Operand}
theorem SV.pickT (hc : og g c = .bool b) (hb : b = true) (hR : R (og g x) s) : SV X P ro g (.pick c x y) s R := SV.pick hc (by subst hb; exact hR)
theorem SV.pickF (hc : og g c = .bool b) (hb : b = false) (hR : R (og g y) s) : SV X P ro g (.pick c x y) s R := SV.pick hc (by subst hb; exact hR)
theorem SV.pickD (hc : og g c = .bool (decide p)) (h1 : p → decide p = true → R (og g x) s) (h2 : ¬p → decide p = false → R (og g y) s) : SV X P ro g (.pick c x y) s R := by
  by_cases h : p
  · exact SV.pickT hc (decide_eq_true h) (h1 h (decide_eq_true h))
  · exact SV.pickF hc (decide_eq_false h) (h2 h (decide_eq_false h))
theorem SV.notD {t : TypeId} (hx : og g x = .bool (decide p)) (hR : R (.bool (decide ¬p)) s) : SV X P ro g (.unOp .not t x) s R := SV.not hx (by rw [← decide_not]; exact hR)
theorem SV.notT {t : TypeId} (hx : og g x = .bool b) (hb : b = true) (hR : R (.bool false) s) : SV X P ro g (.unOp .not t x) s R := SV.not hx (by subst hb; exact hR)
theorem SV.notF {t : TypeId} (hx : og g x = .bool b) (hb : b = false) (hR : R (.bool true) s) : SV X P ro g (.unOp .not t x) s R := SV.not hx (by subst hb; exact hR)
variable {cx cy : Code}
theorem WC.condT (hc : og g c = .bool b) (hb : b = true) (h : WC X P ro nt cx g ds s Q) : WC X P ro nt (.cond c cx cy) g ds s Q := WC.cond hc (fun _ => h) (fun e => by rw [hb] at e; cases e)
theorem WC.condF (hc : og g c = .bool b) (hb : b = false) (h : WC X P ro nt cy g ds s Q) : WC X P ro nt (.cond c cx cy) g ds s Q := WC.cond hc (fun e => by rw [hb] at e; cases e) (fun _ => h)
theorem WC.condD (hc : og g c = .bool (decide p)) (h1 : p → decide p = true → WC X P ro nt cx g ds s Q) (h2 : ¬p → decide p = false → WC X P ro nt cy g ds s Q) : WC X P ro nt (.cond c cx cy) g ds s Q :=
  WC.cond hc (fun h => h1 (of_decide_eq_true h) h) (fun h => h2 (of_decide_eq_false h) h)
end

/-- A value of one cell. -/
inductive CV : Value → Value → Prop
  | int {k : IntKind} {n : Int} : CV (.int k n) (.int k n)
  | slc {A : Option Addr} {n c : Nat} : CV (.slice A n c) (.slice A n c)
  | ptr {p : Option Addr} : CV (.pointer p) (.pointer p)
  | bool {b : Bool} : CV (.bool b) (.bool b)
  | str {b : ByteArray} : CV (.string b) (.string b)
  | map {r : Option Nat} : CV (.map r) (.map r)
  | fn {f : Fn} {a c : Array Value} : CV (.func f a c) (.func f a c)
  | ifc {t : TypeId} {v : Value} : CV (.iface t v) (.iface t v)
  | nilFn : CV .nilFunc .nilFunc
  | nilIfc : CV .nilIface .nilIface
theorem CV.cells {u v : Value} (h : CV u v) : cellsV u = some [v] ∧ oneC v = true := by cases h <;> exact ⟨rfl, rfl⟩

section
variable {X : CallE} {P : Program} {ro : Nat} {g : Gm} {s : St} {R : Value → St → Prop} {H : Hp} {t : TypeId} {a x : Operand} {v : Value}
theorem SV.storeV [h : TCell P t] {ν o es : Nat} {vs : List Value} (hM : Models ro s H) (ha : og g a = .pointer (some ⟨ν, o, none⟩)) (hx : CV (og g x) v) (hH : H ν = some (.row es vs)) (ho : o < vs.length)
    (hR : ∀ s', s.next ≤ s'.next → Models ro s' (H.up ν (.row es (vs.set o v))) → R und s') : SV X P ro g (.store t a x) s R := SV.storeM hM ha hx.cells.1 hx.cells.2 hH ho hR
theorem SV.boxV {e : TypeId} (hM : Models ro s H) (hx : CV (og g x) v) (hR : ∀ a s', H a = none → (∀ ν o, H ν = some o → ν ≠ a) → s.next ≤ s'.next → Models ro s' (H.up a (.row 0 [v])) → R (.pointer (some ⟨a, 0, none⟩)) s') :
    SV X P ro g (.box e x) s R := SV.boxM hM hx.cells.1 hR
end

/-! ### Bits -/
theorem and_one (m : Int) : IntKind.i64.wrap ((BitVec.ofInt IntKind.i64.bits m &&& BitVec.ofInt IntKind.i64.bits 1).toNat) = m % 2 := by
  have h : (BitVec.ofInt 64 m &&& BitVec.ofInt 64 1).toNat = (m % 2).toNat := by
    rw [BitVec.toNat_and, BitVec.toNat_ofInt, BitVec.toNat_ofInt]
    rw [show ((1 : Int) % ((2 ^ 64 : Nat) : Int)).toNat = 1 from rfl, Nat.and_one_is_mod]
    omega
  show IntKind.i64.wrap (((BitVec.ofInt 64 m &&& BitVec.ofInt 64 1).toNat : Nat) : Int) = m % 2
  rw [h]
  rw [wrap_id (by omega) (by omega)]
  omega
section
variable {X : CallE} {P : Program} {ro : Nat} {g : Gm} {s : St} {R : Value → St → Prop} {m : Int} {x y : Operand} {t yt : TypeId}
theorem SV.and1 (hx : og g x = .int .i64 m) (hy : og g y = .int .i64 1) (hR : R (.int .i64 (m % 2)) s) : SV X P ro g (.binOp .and t x y yt) s R :=
  SV.bin hx hy (by rw [bin_int (by decide) (by decide)]; simp only [intBin, and_one]) hR
theorem SV.rem64 {n : Int} (hx : og g x = .int .i64 m) (hy : og g y = .int .i64 n) (h : n ≠ 0) (hR : R (.int .i64 (m.tmod n)) s) : SV X P ro g (.binOp .rem t x y yt) s R := SV.rem hx hy h hR
end

/-! ### Values told in their normal form -/
inductive NV : Value → Value → Prop
  | int {k : IntKind} {n : Int} : NV (.int k n) (.int k n)
  | slc {A : Option Addr} {n c : Nat} : NV (.slice A n c) (.slice A n c)
  | ptr {p : Option Addr} : NV (.pointer p) (.pointer p)
  | bool {b : Bool} : NV (.bool b) (.bool b)
  | agg {a : Array Value} : NV (.agg a) (.agg a)
  | tuple {a : Array Value} : NV (.tuple a) (.tuple a)
  | str {b : ByteArray} : NV (.string b) (.string b)
  | map {r : Option Nat} : NV (.map r) (.map r)
  | fn {f : Fn} {a c : Array Value} : NV (.func f a c) (.func f a c)
  | ifc {t : TypeId} {v : Value} : NV (.iface t v) (.iface t v)
  | nilFn : NV .nilFunc .nilFunc
  | nilIfc : NV .nilIface .nilIface
theorem NV.eq {u v : Value} (h : NV u v) : u = v := by cases h <;> rfl
section
variable {X : CallE} {P : Program} {ro : Nat} {g : Gm} {s : St} {R : Value → St → Prop} {c x y : Operand} {v w : Value} {b : Bool} {p : Prop} [Decidable p]
theorem SV.moveV (hx : NV (og g x) v) (hR : R v s) : SV X P ro g (.move x) s R := SV.move (by rw [hx.eq]; exact hR)
theorem SV.assignV (hx : NV (og g x) v) (hR : R v s) : SV X P ro g (.assign x) s R := SV.assign (by rw [hx.eq]; exact hR)
theorem SV.pickTV (hc : og g c = .bool b) (hb : b = true) (hx : NV (og g x) v) (hR : R v s) : SV X P ro g (.pick c x y) s R := SV.pickT hc hb (by rw [hx.eq]; exact hR)
theorem SV.pickFV (hc : og g c = .bool b) (hb : b = false) (hx : NV (og g y) v) (hR : R v s) : SV X P ro g (.pick c x y) s R := SV.pickF hc hb (by rw [hx.eq]; exact hR)
end

/-! ### A guard whose test was not asked -/
section
variable {X : CallE} {P : Program} {ro : Nat} {nt : Nat} {all rest : List Oper} {g : Gm} {ds : List Deferred} {s : St} {Q : Ex → Gm → List Deferred → St → Prop}
  {op : Op} {ty : TypeId} {pos : String} {after : Array Edge} {d : Nat} {i dj : Nat} {w : Bool} {oj : Oper} {restD : List (Nat × Oper)} {QD : Gm → List Deferred → St → Prop} {ii : Nat}
theorem WO.guardU (ho : nth all i = some oj) (hj : oj.dst = some dj) (hb : g dj = some und)
    (h2 : WO X P ro nt all rest (up g d und) ds s Q) (hd : d < nt) : WO X P ro nt all (⟨some d, op, ty, pos, after, some (i, w)⟩ :: rest) g ds s Q := fun t ht => by
  obtain ⟨o, ⟨K2, hK2⟩, hQ⟩ := h2 (t.set d und) (by rw [get_up, ht])
  refine ⟨o, ⟨K2, fun j hj' => ?_⟩, hQ⟩
  simp only [evalOps, wantedA, ho, hj, ht, hb, und, putK_yes hd]
  exact hK2 j (by omega)
theorem WD.guardU (ho : nth all i = some oj) (hj : oj.dst = some dj) (hb : g dj = some und)
    (h2 : WD X P ro nt all restD (up g d und) ds s QD) (hd : d < nt) : WD X P ro nt all ((ii, ⟨some d, op, ty, pos, after, some (i, w)⟩) :: restD) g ds s QD := fun t ht => by
  obtain ⟨a1, s1, ⟨K2, hK2⟩, hQ⟩ := h2 (t.set d und) (by rw [get_up, ht])
  refine ⟨a1, s1, ⟨K2, fun j hj' => ?_⟩, hQ⟩
  obtain ⟨log, l1, l2⟩ := hK2 j (by omega)
  refine ⟨⟨ii, ⟨some d, op, ty, pos, after, some (i, w)⟩, t, s, s, und, false⟩ :: log, ?_, mem_cons_log rfl l2⟩
  have e : ∀ k : AAct → Option (AAct × St × List Rec), putK nt ⟨t, ds⟩ (some d) (Value.tuple #[]) k = k ⟨t.set d (Value.tuple #[]), ds⟩ := fun k => putK_yes hd
  have l1' : evalDraw P ro (evX X P ro j) nt all restD ⟨t.set d (Value.tuple #[]), ds⟩ s = some (a1, s1, log) := l1
  simp only [evalDraw, wantedA, ho, hj, ht, hb, und, e, l1']
end
end
end Go.Ab

namespace Go.Ab
noncomputable section

/-! ### A region whose order is drawn, where readings stand beside calls: all that is read stays. -/

/-- What an operation reads is the same in every state of which that is known. -/
def St1 (P : Program) (ro : Nat) (H : Hp) (g : Gm) (op : Op) (v : Value) : Prop :=
  (∀ s1, Models ro s1 H → ∀ t : T Value, t.get = g → evalOp P ro t op s1 = some (.val v s1)) ∧ sameV 4 v v = true

def WE (X : CallE) (P : Program) (ro : Nat) (H : Hp) (nt : Nat) (all : List Oper) (l : List (Nat × Oper)) (g : Gm) (ds : List Deferred) (s : St) (Q : Gm → List Deferred → St → Prop) : Prop :=
  ∀ t : T Value, t.get = g → ∃ (a' : AAct) (s' : St), (∃ K, ∀ j, K ≤ j → ∃ log, evalDraw P ro (evX X P ro j) nt all l ⟨t, ds⟩ s = some (a', s', log) ∧
    ∀ r ∈ log, Models ro r.s H ∧ Models ro r.s' H ∧ (isRead P r = true → ∀ s1, Models ro s1 H → isVal r.v (evalOp P ro r.tm r.o.op s1) = true)) ∧ Q a'.tm.get a'.defers s'

section
variable {X : CallE} {P : Program} {ro : Nat} {H : Hp} {nt i : Nat} {all : List Oper} {rest : List (Nat × Oper)} {g : Gm} {ds : List Deferred} {s : St} {Q : Gm → List Deferred → St → Prop}
  {op : Op} {ty : TypeId} {pos : String} {after : Array Edge} {d : Nat}

theorem WE.nil (h : Q g ds s) : WE X P ro H nt all [] g ds s Q := fun t ht => ⟨⟨t, ds⟩, s, ⟨0, fun _ _ => ⟨[], rfl, fun r hr => by cases hr⟩⟩, by subst ht; exact h⟩

theorem all_cons_log {p : Rec → Prop} {log : List Rec} {r0 : Rec} (h0 : p r0) (h : ∀ r ∈ log, p r) : ∀ r ∈ r0 :: log, p r := fun r hr => by
  rcases List.mem_cons.mp hr with rfl | hr
  · exact h0
  · exact h r hr

theorem WE.act (hc : (match clsOf P op with | .read => false | _ => true) = true) (hM : Models ro s H) (h : SV X P ro g op s (fun v s' => Models ro s' H ∧ WE X P ro H nt all rest (up g d v) ds s' Q)) (hd : d < nt) :
    WE X P ro H nt all ((i, ⟨some d, op, ty, pos, after, none⟩) :: rest) g ds s Q := fun t ht => by
  obtain ⟨v, s', ⟨K, hK⟩, hM', hR⟩ := h
  obtain ⟨a1, s1, ⟨K2, hK2⟩, hQ⟩ := hR (t.set d v) (by rw [get_up, ht])
  refine ⟨a1, s1, ⟨max K K2, fun j hj => ?_⟩, hQ⟩
  obtain ⟨log, h1, h2⟩ := hK2 j (by omega)
  refine ⟨⟨i, ⟨some d, op, ty, pos, after, none⟩, t, s, s', v, true⟩ :: log, ?_, all_cons_log ⟨hM, hM', fun hr => ?_⟩ h2⟩
  · simp only [evalDraw, wantedA, hK j (by omega) t ht, putK_yes hd, h1]
  · unfold isRead at hr
    simp only at hr
    cases e : clsOf P op <;> rw [e] at hc hr <;> first | (cases hc; done) | cases hr

theorem WE.read {v : Value} (hst : St1 P ro H g op v) (hM : Models ro s H) (h : WE X P ro H nt all rest (up g d v) ds s Q) (hd : d < nt) :
    WE X P ro H nt all ((i, ⟨some d, op, ty, pos, after, none⟩) :: rest) g ds s Q := fun t ht => by
  obtain ⟨a1, s1, ⟨K2, hK2⟩, hQ⟩ := h (t.set d v) (by rw [get_up, ht])
  refine ⟨a1, s1, ⟨K2, fun j hj => ?_⟩, hQ⟩
  obtain ⟨log, h1, h2⟩ := hK2 j (by omega)
  have he := hst.1 s hM t ht
  refine ⟨⟨i, ⟨some d, op, ty, pos, after, none⟩, t, s, s, v, true⟩ :: log, ?_, all_cons_log ⟨hM, hM, fun _ s1 h1 => ?_⟩ h2⟩
  · simp only [evalDraw, wantedA, stepOp, he, show Nat.ble s.next s.next = true from Nat.ble_eq.mpr (Nat.le_refl _), cond_true, putK_yes hd, h1]
  · simp only [hst.1 s1 h1 t ht, isVal]; exact hst.2

theorem stillR_known {bef : List Nat} {log : List Rec} (h : ∀ r ∈ log, Models ro r.s H ∧ Models ro r.s' H ∧ (isRead P r = true → ∀ s1, Models ro s1 H → isVal r.v (evalOp P ro r.tm r.o.op s1) = true)) : stillR P ro bef log = true := by
  unfold stillR
  rw [List.all_eq_true]
  intro r hr
  cases hrd : isRead P r with
  | false => simp
  | true =>
    rw [Bool.or_eq_true, List.all_eq_true]
    right
    intro e he
    obtain ⟨h1, h2, _⟩ := h e he
    obtain ⟨_, _, h3⟩ := h r hr
    rw [h3 hrd _ h1, h3 hrd _ h2]
    simp

theorem WC.drawE {id : Nat} {ops : Array Oper} (_hM : Models ro s H) (l : List Nat) {Q : Ex → Gm → List Deferred → St → Prop} (hd : drawOk P ops = true) (hl : canonOf P ops = pickOps ops.toList l)
    (h : WE X P ro H nt ops.toList (pickOps ops.toList l) g ds s (Q .normal)) : WC X P ro nt (.region id ops true) g ds s Q := fun t ht => by
  obtain ⟨a1, s1, ⟨K, hK⟩, hQ⟩ := h t ht
  refine ⟨⟨.normal, a1, s1⟩, ⟨K + 1, fun k j hk hj => ?_⟩, hQ⟩
  obtain ⟨k, rfl⟩ : ∃ m, k = m + 1 := ⟨k - 1, by omega⟩
  obtain ⟨log, h1, h2⟩ := hK j (by omega)
  simp only [evalC, cond_true, hd, hl, h1, stillR_known h2]

theorem St1.load {t : TypeId} {x : Operand} [h : TCell P t] {ν o es : Nat} {vs : List Value} {v : Value} (hx : og g x = .pointer (some ⟨ν, o, none⟩)) (hH : H ν = some (.row es vs)) (hv : vs[o]? = some v) (hs : sameV 4 v v = true) : St1 P ro H g (.load t x) v :=
  ⟨fun s1 h1 t' ht => by simp only [evalOp, opv_og, ht, hx, ldVar, h.ag, ldCell_row h1 hH hv], hs⟩
theorem eqI_self (n : Int) : eqI n n = true := by rw [eqI_eq]; simp
theorem St1.len {t : TypeId} {x : Operand} {ts : Array TypeId} {e : TypeId} {n : Nat} [h : TSlice P t e n] {A : Option Addr} {len cap : Nat} (hts : ts.toList = [t]) (hx : og g x = .slice A len cap) : St1 P ro H g (.call ⟨.builtin .len, #[x], ts⟩) (.int .i64 len) :=
  ⟨fun s1 _ t' ht => by simp only [evalOp, builtinOf, hts, List.map_cons, List.map_nil, opv_og, ht, hx, lenB, h.und]; rfl, by simp [sameV, eqI_self]⟩
theorem sameV_ptr (ν o : Nat) : sameV 4 (.pointer (some ⟨ν, o, none⟩)) (.pointer (some ⟨ν, o, none⟩)) = true := by simp [sameV]
theorem sameV_int (k : IntKind) (n : Int) : sameV 4 (.int k n) (.int k n) = true := by simp [sameV, eqI_self]
theorem sameV_slc (ν o n c : Nat) : sameV 4 (.slice (some ⟨ν, o, none⟩) n c) (.slice (some ⟨ν, o, none⟩) n c) = true := by simp [sameV]
end
end
end Go.Ab
