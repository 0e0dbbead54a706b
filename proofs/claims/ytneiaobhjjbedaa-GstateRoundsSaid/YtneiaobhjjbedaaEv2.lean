/- A part of the proof that what the evaluator says of a piece of code, the model does: no condition but those that each theorem states. -/
import Derived.Test.YtneiaobhjjbedaaEv1
namespace Go.Ab

/-! ### Names of blocks, and the values and heaps that they stand for -/

structure RI where
  b : Nat
  r : Nat
  n : Nat
  sz : Nat
  es : Nat
  opn : Bool

abbrev Ren := Nat → Option RI

def Ren.le (ρ ρ' : Ren) : Prop := ∀ ν i, ρ ν = some i → ρ' ν = some i
theorem Ren.le_refl (ρ : Ren) : ρ.le ρ := fun _ _ h => h
theorem Ren.le_trans {a b c : Ren} (h : a.le b) (k : b.le c) : a.le c := fun ν i e => k ν i (h ν i e)

def Ren.upd (ρ : Ren) (ν : Nat) (i : RI) : Ren := fun μ => if μ = ν then some i else ρ μ
theorem Ren.upd_same (ρ : Ren) (ν : Nat) (i : RI) : ρ.upd ν i ν = some i := by simp [Ren.upd]
theorem Ren.upd_ne (ρ : Ren) {ν μ : Nat} (i : RI) (h : μ ≠ ν) : ρ.upd ν i μ = ρ μ := by simp [Ren.upd, h]
theorem Ren.le_upd {ρ : Ren} {ν : Nat} (i : RI) (h : ρ ν = none) : ρ.le (ρ.upd ν i) := fun μ j e => by
  by_cases hm : μ = ν
  · subst hm; rw [h] at e; cases e
  · rw [Ren.upd_ne ρ i hm]; exact e

def SlcOk (i : RI) (o len cap o' cap' : Nat) : Prop :=
  (o' = i.r + o ∧ cap' = cap) ∨
  (i.opn = true ∧ o' = i.r + o ∧ o + cap * i.es = i.n ∧ cap ≤ cap' ∧ o' + cap' * i.es ≤ i.sz) ∨
  (i.opn = true ∧ len = 0 ∧ cap = 0 ∧ o = i.n ∧ i.r ≤ o' ∧ o' + cap' * i.es ≤ i.sz)

inductive VR (ρ : Ren) : Value → Value → Prop
  | unk (v : Value) : VR ρ (.chan (some 0)) v
  | bool (b : Bool) : VR ρ (.bool b) (.bool b)
  | int (k : IntKind) (n : Int) : VR ρ (.int k n) (.int k n)
  | float (k : FloatKind) (n : Nat) : VR ρ (.float k n) (.float k n)
  | complex (k : FloatKind) (n m : Nat) : VR ρ (.complex k n m) (.complex k n m)
  | string (s : ByteArray) : VR ρ (.string s) (.string s)
  | ptrNil : VR ρ (.pointer none) (.pointer none)
  | ptr {ν o : Nat} {i : RI} (h : ρ ν = some i) : VR ρ (.pointer (some ⟨ν, o, none⟩)) (.pointer (some ⟨i.b, i.r + o, none⟩))
  | slcNil (l c : Nat) : VR ρ (.slice none l c) (.slice none l c)
  | slc {ν o len cap o' cap' : Nat} {i : RI} (h : ρ ν = some i) (hs : SlcOk i o len cap o' cap') :
      VR ρ (.slice (some ⟨ν, o, none⟩) len cap) (.slice (some ⟨i.b, o', none⟩) len cap')
  | mapNil : VR ρ (.map none) (.map none)
  | map {ν : Nat} {i : RI} (h : ρ ν = some i) : VR ρ (.map (some ν)) (.map (some i.b))
  | chanNil : VR ρ (.chan none) (.chan none)
  | func (fn : Fn) (f f' c c' : Array Value) (hf : f.size = f'.size) (hc : c.size = c'.size)
      (h1 : ∀ (j : Nat) (a b : Value), f[j]? = some a → f'[j]? = some b → VR ρ a b) (h2 : ∀ (j : Nat) (a b : Value), c[j]? = some a → c'[j]? = some b → VR ρ a b) :
      VR ρ (.func fn f c) (.func fn f' c')
  | nilFunc : VR ρ .nilFunc .nilFunc
  | iface (t : TypeId) {v v' : Value} (h : VR ρ v v') : VR ρ (.iface t v) (.iface t v')
  | nilIface : VR ρ .nilIface .nilIface
  | agg (f f' : Array Value) (hf : f.size = f'.size) (h1 : ∀ (j : Nat) (a b : Value), f[j]? = some a → f'[j]? = some b → VR ρ a b) : VR ρ (.agg f) (.agg f')
  | tuple (f f' : Array Value) (hf : f.size = f'.size) (h1 : ∀ (j : Nat) (a b : Value), f[j]? = some a → f'[j]? = some b → VR ρ a b) : VR ρ (.tuple f) (.tuple f')

abbrev VRs (ρ : Ren) : List Value → List Value → Prop := L2 (VR ρ)

theorem VR.mono {ρ ρ' : Ren} (hl : ρ.le ρ') {v v' : Value} (h : VR ρ v v') : VR ρ' v v' := by
  induction h with
  | unk v => exact .unk v
  | bool b => exact .bool b
  | int k n => exact .int k n
  | float k n => exact .float k n
  | complex k n m => exact .complex k n m
  | string s => exact .string s
  | ptrNil => exact .ptrNil
  | ptr h => exact .ptr (hl _ _ h)
  | slcNil l c => exact .slcNil l c
  | slc h hs => exact .slc (hl _ _ h) hs
  | mapNil => exact .mapNil
  | map h => exact .map (hl _ _ h)
  | chanNil => exact .chanNil
  | func fn f f' c c' hf hc h1 h2 i1 i2 => exact .func fn f f' c c' hf hc i1 i2
  | nilFunc => exact .nilFunc
  | iface t h ih => exact .iface t ih
  | nilIface => exact .nilIface
  | agg f f' hf h1 i1 => exact .agg f f' hf i1
  | tuple f f' hf h1 i1 => exact .tuple f f' hf i1

theorem VRs.mono {ρ ρ' : Ren} (hl : ρ.le ρ') {v v' : List Value} (h : VRs ρ v v') : VRs ρ' v v' := L2.mono (fun _ _ => VR.mono hl) h

theorem vrs_of_arr {ρ : Ren} {f f' : Array Value} (hf : f.size = f'.size) (h1 : ∀ (j : Nat) (a b : Value), f[j]? = some a → f'[j]? = some b → VR ρ a b) : VRs ρ f.toList f'.toList :=
  L2.of_get (by simpa using hf) fun i a b ha hb => h1 i a b (by simpa using ha) (by simpa using hb)

theorem arr_of_vrs {ρ : Ren} {l m : List Value} (h : VRs ρ l m) : l.toArray.size = m.toArray.size ∧ ∀ (j : Nat) (a b : Value), l.toArray[j]? = some a → m.toArray[j]? = some b → VR ρ a b := by
  refine ⟨by simpa using h.length, fun j a b ha hb => ?_⟩
  obtain ⟨b', hb', hr⟩ := h.get (i := j) (a := a) (by simpa using ha)
  have : b = b' := by
    have hb2 : m[j]? = some b := by simpa using hb
    rw [hb2] at hb'; exact Option.some.inj hb'
  exact this ▸ hr

theorem VR.agg_of {ρ : Ren} {l m : List Value} (h : VRs ρ l m) : VR ρ (.agg l.toArray) (.agg m.toArray) := .agg _ _ (arr_of_vrs h).1 (arr_of_vrs h).2
theorem VR.tuple_of {ρ : Ren} {l m : List Value} (h : VRs ρ l m) : VR ρ (.tuple l.toArray) (.tuple m.toArray) := .tuple _ _ (arr_of_vrs h).1 (arr_of_vrs h).2
theorem VR.func_of {ρ : Ren} {l m c d : List Value} (fn : Fn) (h : VRs ρ l m) (h' : VRs ρ c d) : VR ρ (.func fn l.toArray c.toArray) (.func fn m.toArray d.toArray) :=
  .func fn _ _ _ _ (arr_of_vrs h).1 (arr_of_vrs h').1 (arr_of_vrs h).2 (arr_of_vrs h').2

theorem VR.und (ρ : Ren) : VR ρ Ab.und Go.undef := VR.tuple_of (l := []) (m := []) .nil

theorem VR.agg_inv {ρ : Ren} {f : Array Value} {v : Value} (h : VR ρ (.agg f) v) : ∃ f', v = .agg f' ∧ VRs ρ f.toList f'.toList := by
  cases h with | agg _ f' hf h1 => exact ⟨f', rfl, vrs_of_arr hf h1⟩
theorem VR.tuple_inv {ρ : Ren} {f : Array Value} {v : Value} (h : VR ρ (.tuple f) v) : ∃ f', v = .tuple f' ∧ VRs ρ f.toList f'.toList := by
  cases h with | tuple _ f' hf h1 => exact ⟨f', rfl, vrs_of_arr hf h1⟩
theorem VR.func_inv {ρ : Ren} {fn : Fn} {f c : Array Value} {v : Value} (h : VR ρ (.func fn f c) v) : ∃ f' c', v = .func fn f' c' ∧ VRs ρ f.toList f'.toList ∧ VRs ρ c.toList c'.toList := by
  cases h with | func _ _ f' _ c' hf hc h1 h2 => exact ⟨f', c', rfl, vrs_of_arr hf h1, vrs_of_arr hc h2⟩

theorem closed_refl {ρ : Ren} : ∀ (d : Nat) (v : Value), closedV d v = true → VR ρ v v
  | 0, _, h => by simp [closedV] at h
  | d + 1, v, h => by
    cases v with
    | bool b => exact .bool b
    | int k n => exact .int k n
    | float k n => exact .float k n
    | complex k n m => exact .complex k n m
    | string s => exact .string s
    | pointer a => cases a with
      | none => exact .ptrNil
      | some a => simp [closedV] at h
    | slice a l c => cases a with
      | none => exact .slcNil l c
      | some a => simp [closedV] at h
    | map r => cases r with
      | none => exact .mapNil
      | some a => simp [closedV] at h
    | chan r => cases r with
      | none => exact .chanNil
      | some a => simp [closedV] at h
    | func fn f c =>
      simp [closedV] at h
      obtain ⟨h1, h2⟩ := h
      subst h1; subst h2
      exact VR.func_of (l := []) (m := []) (c := []) (d := []) fn .nil .nil
    | nilFunc => exact .nilFunc
    | iface t v => exact .iface t (closed_refl d v (by simpa [closedV] using h))
    | nilIface => exact .nilIface
    | agg cs =>
      simp only [closedV, List.all_eq_true] at h
      have : VRs ρ cs.toList cs.toList := L2.refl_of fun a ha => closed_refl d a (h a ha)
      exact VR.agg_of this
    | tuple vs => simp [closedV] at h

/-- The cells of related values are related. -/
theorem cellsV_rel {ρ : Ren} {v v' : Value} {l : List Value} (hv : VR ρ v v') (h : cellsV v = some l) : VRs ρ l v'.cells.toList := by
  cases hv <;> simp [cellsV] at h <;> (try subst h) <;> (try exact .cons (by constructor <;> assumption) .nil)
  case agg f f' hf h1 => exact vrs_of_arr hf h1

def AObj.alive : AObj → Bool
  | .cells b => !b.dead
  | _ => true

def EntR (ρ : Ren) (e e' : MapEntry) : Prop := VR ρ e.key e'.key ∧ VR ρ e.val e'.val ∧ e.born = e'.born

def CellsR (ρ : Ren) (i : RI) (b : Blk) (w : World) : Prop :=
  ∃ cs t fr, w.heap[i.b]? = some (.cells cs t fr) ∧ cs.size = i.sz ∧ i.r + i.n ≤ i.sz ∧ (fr.1 = fr.2 ∨ cs.size ≤ fr.1) ∧ (b.str = false → fr.1 = fr.2) ∧
    (b.opn = false → i.r = 0 ∧ i.sz = i.n) ∧ ∀ j v, cellAt b j = some v → ∃ v', cs[i.r + j]? = some v' ∧ VR ρ v v'

def ObjR (ρ : Ren) (i : RI) (w : World) : AObj → Prop
  | .cells b => i.n = b.n ∧ i.opn = b.opn ∧ i.es = b.es ∧ (b.dead = false → CellsR ρ i b w)
  | .map es c => ∃ es', w.heap[i.b]? = some (.map es' c) ∧ L2 (EntR ρ) es es'.toList
  | .siter s p => i.r = 0 ∧ w.heap[i.b]? = some (.stringIter s p)
  | .miter m since seen stepped => i.r = 0 ∧ ∃ m', w.heap[i.b]? = some (.mapIter m' since seen.toArray stepped) ∧
      (match m with | none => m' = none | some μ => ∃ j, ρ μ = some j ∧ m' = some j.b)

theorem EntR.mono {ρ ρ' : Ren} (hl : ρ.le ρ') {e e' : MapEntry} (h : EntR ρ e e') : EntR ρ' e e' := ⟨h.1.mono hl, h.2.1.mono hl, h.2.2⟩

theorem CellsR.mono {ρ ρ' : Ren} (hl : ρ.le ρ') {i : RI} {b : Blk} {w : World} (h : CellsR ρ i b w) : CellsR ρ' i b w := by
  obtain ⟨cs, t, fr, h1, h2, h3, h4, h5, h6, h7⟩ := h
  exact ⟨cs, t, fr, h1, h2, h3, h4, h5, h6, fun j v e => let ⟨v', a, b⟩ := h7 j v e; ⟨v', a, b.mono hl⟩⟩

theorem ObjR.mono {ρ ρ' : Ren} (hl : ρ.le ρ') {i : RI} {w : World} {o : AObj} (h : ObjR ρ i w o) : ObjR ρ' i w o := by
  cases o with
  | cells b => exact ⟨h.1, h.2.1, h.2.2.1, fun hd => (h.2.2.2 hd).mono hl⟩
  | map es c => obtain ⟨es', h1, h2⟩ := h; exact ⟨es', h1, h2.mono fun _ _ => EntR.mono hl⟩
  | siter s p => exact h
  | miter m a b c =>
    obtain ⟨h0, m', h1, h2⟩ := h
    refine ⟨h0, m', h1, ?_⟩
    cases m with
    | none => exact h2
    | some μ => obtain ⟨j, e, e'⟩ := h2; exact ⟨j, hl _ _ e, e'⟩

theorem ObjR.congr {ρ : Ren} {i : RI} {w w' : World} {o : AObj} (hw : w'.heap[i.b]? = w.heap[i.b]?) (h : ObjR ρ i w o) : ObjR ρ i w' o := by
  cases o with
  | cells b =>
    refine ⟨h.1, h.2.1, h.2.2.1, fun hd => ?_⟩
    obtain ⟨cs, t, fr, h1, h2⟩ := h.2.2.2 hd
    exact ⟨cs, t, fr, hw.trans h1, h2⟩
  | map es c => obtain ⟨es', h1, h2⟩ := h; exact ⟨es', hw.trans h1, h2⟩
  | siter s p => exact ⟨h.1, hw.trans h.2⟩
  | miter m a b c => obtain ⟨h0, m', h1, h2⟩ := h; exact ⟨h0, m', hw.trans h1, h2⟩

def Live (H : Nat → Option AObj) (ν : Nat) : Prop := ∃ o, H ν = some o ∧ o.alive = true

structure Rel (B ro : Nat) (ρ : Ren) (H : Nat → Option AObj) (w : World) : Prop where
  base : B ≤ w.heap.size
  inb : ∀ ν i, ρ ν = some i → i.b < w.heap.size
  own : ∀ ν i, ρ ν = some i → ro ≤ ν → B ≤ i.b
  rdo : ∀ ν i, ρ ν = some i → ν < ro → i.b < B
  inj : ∀ ν μ i j, ρ ν = some i → ρ μ = some j → ro ≤ ν → ro ≤ μ → Live H ν → Live H μ → i.b = j.b → ν = μ
  obj : ∀ ν i o, ρ ν = some i → H ν = some o → ObjR ρ i w o

theorem Rel.sub {B ro : Nat} {ρ : Ren} {H H' : Nat → Option AObj} {w : World} (h : Rel B ro ρ H w) (hs : ∀ ν i o, ρ ν = some i → H' ν = some o → H ν = some o) : Rel B ro ρ H' w where
  base := h.base
  inb := h.inb
  own := h.own
  rdo := h.rdo
  inj := fun ν μ i j hi hj h1 h2 ⟨o1, l1, a1⟩ ⟨o2, l2, a2⟩ e => h.inj ν μ i j hi hj h1 h2 ⟨o1, hs _ _ _ hi l1, a1⟩ ⟨o2, hs _ _ _ hj l2, a2⟩ e
  obj := fun ν i o hi ho => h.obj ν i o hi (hs _ _ _ hi ho)

/-- All names stand below the next one. -/
def Wf (s : St) : Prop := ∀ ν o, s.heap.get ν = some o → ν < s.next

structure Step (B ro : Nat) (ρ : Ren) (s : St) (w : World) (ρ' : Ren) (s' : St) (w' : World) : Prop where
  le : ρ.le ρ'
  next : s.next ≤ s'.next
  dom : ∀ ν i, ρ ν = none → ρ' ν = some i → s.next ≤ ν ∧ ν < s'.next
  rel : Rel B ro ρ' s'.heap.get w'
  blk : ∀ ν i, ρ ν = none → ρ' ν = some i → w.heap.size ≤ i.b ∨ ∃ μ j, ro ≤ μ ∧ ρ μ = some j ∧ Live s.heap.get μ ∧ j.b = i.b
  frm : ∀ β, β < w.heap.size → (∀ μ j, ρ μ = some j → ro ≤ μ → Live s.heap.get μ → j.b ≠ β) → w'.heap[β]? = w.heap[β]?
  liv : ∀ ν i, ρ ν = some i → Live s'.heap.get ν → Live s.heap.get ν
  siz : w.heap.size ≤ w'.heap.size
  os : w'.os = w.os
  tape : w'.tape = w.tape
  output : w'.output = w.output
  wf : Wf s → Wf s'

theorem Step.refl {B ro : Nat} {ρ : Ren} {s : St} {w : World} (h : Rel B ro ρ s.heap.get w) : Step B ro ρ s w ρ s w where
  le := Ren.le_refl ρ
  next := Nat.le_refl _
  dom := fun ν i h1 h2 => by rw [h1] at h2; cases h2
  rel := h
  blk := fun ν i h1 h2 => by rw [h1] at h2; cases h2
  frm := fun _ _ _ => rfl
  liv := fun _ _ _ h => h
  siz := Nat.le_refl _
  os := rfl
  tape := rfl
  output := rfl
  wf := id

theorem Step.trans {B ro : Nat} {ρ ρ1 ρ2 : Ren} {s s1 s2 : St} {w w1 w2 : World} (h : Step B ro ρ s w ρ1 s1 w1) (k : Step B ro ρ1 s1 w1 ρ2 s2 w2) :
    Step B ro ρ s w ρ2 s2 w2 where
  le := Ren.le_trans h.le k.le
  next := Nat.le_trans h.next k.next
  dom := fun ν i h1 h2 => by
    cases e : ρ1 ν with
    | none => have := k.dom ν i e h2; have := h.next; omega
    | some j => have := h.dom ν j h1 e; have := k.next; omega
  rel := k.rel
  blk := fun ν i h1 h2 => by
    cases e : ρ1 ν with
    | some j =>
      have : i = j := by have := k.le ν j e; rw [h2] at this; exact Option.some.inj this
      subst this
      exact h.blk ν i h1 e
    | none =>
      rcases k.blk ν i e h2 with hb | ⟨μ, j, m1, m2, m3, m4⟩
      · exact .inl (Nat.le_trans h.siz hb)
      · cases e0 : ρ μ with
        | some j0 =>
          have : j0 = j := by have := h.le μ j0 e0; rw [m2] at this; exact (Option.some.inj this).symm
          subst this
          exact .inr ⟨μ, j0, m1, e0, h.liv μ j0 e0 m3, m4⟩
        | none =>
          rcases h.blk μ j e0 m2 with hb | ⟨μ', j', a, b, c, d⟩
          · exact .inl (m4 ▸ hb)
          · exact .inr ⟨μ', j', a, b, c, d.trans m4⟩
  frm := fun β hβ hn => by
    rw [k.frm β (Nat.lt_of_lt_of_le hβ h.siz) ?_, h.frm β hβ hn]
    intro μ j m1 m2 m3 e
    cases e0 : ρ μ with
    | some j0 =>
      have : j0 = j := by have := h.le μ j0 e0; rw [m1] at this; exact (Option.some.inj this).symm
      subst this
      exact hn μ j0 e0 m2 (h.liv μ j0 e0 m3) e
    | none =>
      rcases h.blk μ j e0 m1 with hb | ⟨μ', j', a, b, c, d⟩
      · omega
      · exact hn μ' j' b a c (d.trans e)
  liv := fun ν i hi hl => h.liv ν i hi (k.liv ν i (h.le _ _ hi) hl)
  siz := Nat.le_trans h.siz k.siz
  os := k.os.trans h.os
  tape := k.tape.trans h.tape
  output := k.output.trans h.output
  wf := fun e => k.wf (h.wf e)

/-- What a step leaves alone: all below the base. -/
theorem Step.below {B ro : Nat} {ρ ρ' : Ren} {s s' : St} {w w' : World} (h : Step B ro ρ s w ρ' s' w') (hr : Rel B ro ρ s.heap.get w) : Go.RowKit.Below B w w' where
  os := h.os
  tape := h.tape
  output := h.output
  size := h.siz
  block := fun k hk => h.frm k (Nat.lt_of_lt_of_le hk hr.base) fun μ j m1 m2 _ e => by have := hr.own μ j m1 m2; omega

/-- A draw turns nothing. -/
theorem Rel.drew {B ro : Nat} {ρ : Ren} {H : Nat → Option AObj} {w w' : World} (h : Rel B ro ρ H w) (hh : w'.heap = w.heap) : Rel B ro ρ H w' where
  base := hh ▸ h.base
  inb := fun ν i e => hh ▸ h.inb ν i e
  own := h.own
  rdo := h.rdo
  inj := h.inj
  obj := fun ν i o e e' => (h.obj ν i o e e').congr (by rw [hh])

theorem Step.drew {B ro : Nat} {ρ : Ren} {s : St} {w w' : World} (h : Rel B ro ρ s.heap.get w) (hh : w'.heap = w.heap) (h1 : w'.os = w.os) (h2 : w'.tape = w.tape) (h3 : w'.output = w.output) :
    Step B ro ρ s w ρ s w' where
  le := Ren.le_refl ρ
  next := Nat.le_refl _
  dom := fun ν i h1 h2 => by rw [h1] at h2; cases h2
  rel := h.drew hh
  blk := fun ν i h1 h2 => by rw [h1] at h2; cases h2
  frm := fun _ _ _ => by rw [hh]
  liv := fun _ _ _ h => h
  siz := by rw [hh]; exact Nat.le_refl _
  os := h1
  tape := h2
  output := h3
  wf := id

/-- A new block, under the next name. -/
theorem Step.new {B ro : Nat} {ρ : Ren} {s : St} {w w' : World} {o : AObj} {O : Obj} {i : RI} (h : Rel B ro ρ s.heap.get w) (hro : ro ≤ s.next) (hf : ρ s.next = none)
    (hb : i.b = w.heap.size) (hw : w'.heap = w.heap.push O) (h1 : w'.os = w.os) (h2 : w'.tape = w.tape) (h3 : w'.output = w.output)
    (ho : ObjR (ρ.upd s.next i) i w' o) : Step B ro ρ s w (ρ.upd s.next i) ⟨s.heap.set s.next o, s.next + 1⟩ w' := by
  have hsz : w'.heap.size = w.heap.size + 1 := by rw [hw]; simp
  have hold : ∀ k, k < w.heap.size → w'.heap[k]? = w.heap[k]? := fun k hk => by rw [hw, Array.getElem?_push, if_neg (by omega)]
  have hget : ∀ μ, (⟨s.heap.set s.next o, s.next + 1⟩ : St).heap.get μ = if μ = s.next then some o else s.heap.get μ := fun μ => T.get_set _ _ _ _
  refine
    { le := Ren.le_upd i hf, next := by simp, dom := ?_, rel := ?_, blk := ?_, frm := ?_, liv := ?_, siz := by omega, os := h1, tape := h2, output := h3, wf := ?_ }
  · intro ν j e0 e1
    by_cases hm : ν = s.next
    · subst hm; simp
    · rw [Ren.upd_ne ρ i hm, e0] at e1; cases e1
  · refine { base := by have := h.base; omega, inb := ?_, own := ?_, rdo := ?_, inj := ?_, obj := ?_ }
    · intro ν j e
      by_cases hm : ν = s.next
      · subst hm; rw [Ren.upd_same] at e; cases e; omega
      · rw [Ren.upd_ne ρ i hm] at e; have := h.inb ν j e; omega
    · intro ν j e hν
      by_cases hm : ν = s.next
      · subst hm; rw [Ren.upd_same] at e; cases e; have := h.base; omega
      · rw [Ren.upd_ne ρ i hm] at e; exact h.own ν j e hν
    · intro ν j e hν
      by_cases hm : ν = s.next
      · omega
      · rw [Ren.upd_ne ρ i hm] at e; exact h.rdo ν j e hν
    · intro ν μ j k e1 e2 r1 r2 l1 l2 eb
      by_cases hm : ν = s.next
      · subst hm
        rw [Ren.upd_same] at e1; cases e1
        by_cases hm2 : μ = s.next
        · exact hm2.symm
        · rw [Ren.upd_ne ρ i hm2] at e2; have := h.inb μ k e2; omega
      · rw [Ren.upd_ne ρ i hm] at e1
        by_cases hm2 : μ = s.next
        · subst hm2; rw [Ren.upd_same] at e2; cases e2; have := h.inb ν j e1; omega
        · rw [Ren.upd_ne ρ i hm2] at e2
          obtain ⟨o1, a1, b1⟩ := l1
          obtain ⟨o2, a2, b2⟩ := l2
          rw [hget, if_neg hm] at a1
          rw [hget, if_neg hm2] at a2
          exact h.inj ν μ j k e1 e2 r1 r2 ⟨o1, a1, b1⟩ ⟨o2, a2, b2⟩ eb
    · intro ν j o' e e'
      rw [hget] at e'
      by_cases hm : ν = s.next
      · subst hm
        rw [Ren.upd_same] at e; cases e
        rw [if_pos rfl] at e'; cases e'
        exact ho
      · rw [Ren.upd_ne ρ i hm] at e
        rw [if_neg hm] at e'
        exact ((h.obj ν j o' e e').mono (Ren.le_upd i hf)).congr (hold _ (h.inb ν j e))
  · intro ν j e0 e1
    by_cases hm : ν = s.next
    · subst hm; rw [Ren.upd_same] at e1; cases e1; exact .inl (by omega)
    · rw [Ren.upd_ne ρ i hm, e0] at e1; cases e1
  · intro β hβ _; exact hold β hβ
  · intro ν j e ⟨o', a, b⟩
    by_cases hm : ν = s.next
    · subst hm; rw [hf] at e; cases e
    · rw [hget, if_neg hm] at a; exact ⟨o', a, b⟩
  · intro hwf ν o' e
    rw [hget] at e
    by_cases hm : ν = s.next
    · simp only; omega
    · rw [if_neg hm] at e; have := hwf ν o' e; simp only; omega

/-- An object of one's own is turned. -/
theorem Step.turn {B ro : Nat} {ρ : Ren} {s : St} {w w' : World} {o o' : AObj} {i : RI} {ν : Nat} (h : Rel B ro ρ s.heap.get w) (hν : ro ≤ ν) (hi : ρ ν = some i)
    (hs : s.heap.get ν = some o) (hl : o.alive = true) (hsz : w'.heap.size = w.heap.size) (hw : ∀ k, k ≠ i.b → w'.heap[k]? = w.heap[k]?)
    (h1 : w'.os = w.os) (h2 : w'.tape = w.tape) (h3 : w'.output = w.output) (ho : ObjR ρ i w' o') : Step B ro ρ s w ρ ⟨s.heap.set ν o', s.next⟩ w' := by
  have hget : ∀ μ, (⟨s.heap.set ν o', s.next⟩ : St).heap.get μ = if μ = ν then some o' else s.heap.get μ := fun μ => T.get_set _ _ _ _
  have hlive : ∀ μ, Live (⟨s.heap.set ν o', s.next⟩ : St).heap.get μ → Live s.heap.get μ := by
    intro μ ⟨x, a, b⟩
    rw [hget] at a
    by_cases hm : μ = ν
    · subst hm; exact ⟨o, hs, hl⟩
    · rw [if_neg hm] at a; exact ⟨x, a, b⟩
  refine
    { le := Ren.le_refl ρ, next := Nat.le_refl _, dom := (fun μ j e0 e1 => by rw [e0] at e1; cases e1), rel := ?_, blk := (fun μ j e0 e1 => by rw [e0] at e1; cases e1), frm := ?_,
      liv := fun μ j _ l => hlive μ l, siz := by omega, os := h1, tape := h2, output := h3, wf := ?_ }
  · refine { base := by have := h.base; omega, inb := fun μ j e => by have := h.inb μ j e; omega, own := h.own, rdo := h.rdo, inj := ?_, obj := ?_ }
    · intro a b x y e1 e2 r1 r2 l1 l2 eb
      exact h.inj a b x y e1 e2 r1 r2 (hlive a l1) (hlive b l2) eb
    · intro μ j x e e'
      rw [hget] at e'
      by_cases hm : μ = ν
      · subst hm
        rw [hi] at e; cases e
        rw [if_pos rfl] at e'; cases e'
        exact ho
      · rw [if_neg hm] at e'
        have hx := h.obj μ j x e e'
        by_cases hal : x.alive = true
        · refine hx.congr (hw _ fun eb => ?_)
          by_cases hr : ro ≤ μ
          · exact hm (h.inj μ ν j i e hi hr hν ⟨x, e', hal⟩ ⟨o, hs, hl⟩ eb)
          · have a1 := h.rdo μ j e (by omega); have a2 := h.own ν i hi hν; omega
        · cases x with
          | cells b => exact ⟨hx.1, hx.2.1, hx.2.2.1, fun hd => absurd (by simp [AObj.alive, hd]) hal⟩
          | map _ _ => exact absurd rfl hal
          | siter _ _ => exact absurd rfl hal
          | miter _ _ _ _ => exact absurd rfl hal
  · intro β hβ hn
    exact hw β fun e => hn ν i hi hν ⟨o, hs, hl⟩ e.symm
  · intro hwf μ x e
    rw [hget] at e
    by_cases hm : μ = ν
    · subst hm; exact hwf _ _ hs
    · rw [if_neg hm] at e; exact hwf μ x e

/-- A block of one's own goes on under a new name, its old one dead. -/
theorem Step.renew {B ro : Nat} {ρ : Ren} {s : St} {w w' : World} {b : Blk} {o' : AObj} {i i' : RI} {ν : Nat} (h : Rel B ro ρ s.heap.get w) (hro : ro ≤ s.next) (hf : ρ s.next = none)
    (hν : ro ≤ ν) (hi : ρ ν = some i) (hs : s.heap.get ν = some (.cells b)) (hl : b.dead = false) (hb : i'.b = i.b) (hsz : w'.heap.size = w.heap.size)
    (hw : ∀ k, k ≠ i.b → w'.heap[k]? = w.heap[k]?) (h1 : w'.os = w.os) (h2 : w'.tape = w.tape) (h3 : w'.output = w.output)
    (ho : ObjR (ρ.upd s.next i') i' w' o') :
    Step B ro ρ s w (ρ.upd s.next i') ⟨(s.heap.set ν (.cells { b with dead := true })).set s.next o', s.next + 1⟩ w' := by
  have hνn : ν ≠ s.next := fun e => by subst e; rw [hf] at hi; cases hi
  have hget : ∀ μ, (⟨(s.heap.set ν (.cells { b with dead := true })).set s.next o', s.next + 1⟩ : St).heap.get μ =
      if μ = s.next then some o' else if μ = ν then some (.cells { b with dead := true }) else s.heap.get μ := fun μ => by
    show T.get (T.set _ _ _) μ = _
    rw [T.get_set, T.get_set]
  have hlν : Live s.heap.get ν := ⟨_, hs, by simp [AObj.alive, hl]⟩
  have hlive : ∀ μ, μ ≠ s.next → Live (⟨(s.heap.set ν (.cells { b with dead := true })).set s.next o', s.next + 1⟩ : St).heap.get μ → Live s.heap.get μ ∧ μ ≠ ν := by
    intro μ hm ⟨x, a, c⟩
    rw [hget, if_neg hm] at a
    by_cases hm2 : μ = ν
    · rw [if_pos hm2] at a; cases a; simp [AObj.alive] at c
    · rw [if_neg hm2] at a; exact ⟨⟨x, a, c⟩, hm2⟩
  refine
    { le := Ren.le_upd i' hf, next := by simp, dom := ?_, rel := ?_, blk := ?_, frm := ?_, liv := ?_, siz := by omega, os := h1, tape := h2, output := h3, wf := ?_ }
  · intro μ j e0 e1
    by_cases hm : μ = s.next
    · subst hm; simp
    · rw [Ren.upd_ne ρ i' hm, e0] at e1; cases e1
  · refine { base := by have := h.base; omega, inb := ?_, own := ?_, rdo := ?_, inj := ?_, obj := ?_ }
    · intro μ j e
      by_cases hm : μ = s.next
      · subst hm; rw [Ren.upd_same] at e; cases e; have := h.inb ν i hi; omega
      · rw [Ren.upd_ne ρ i' hm] at e; have := h.inb μ j e; omega
    · intro μ j e hμ
      by_cases hm : μ = s.next
      · subst hm; rw [Ren.upd_same] at e; cases e; have := h.own ν i hi hν; omega
      · rw [Ren.upd_ne ρ i' hm] at e; exact h.own μ j e hμ
    · intro μ j e hμ
      by_cases hm : μ = s.next
      · omega
      · rw [Ren.upd_ne ρ i' hm] at e; exact h.rdo μ j e hμ
    · intro μ κ j k e1 e2 r1 r2 l1 l2 eb
      by_cases hm : μ = s.next
      · by_cases hm2 : κ = s.next
        · rw [hm, hm2]
        · subst hm
          rw [Ren.upd_same] at e1; cases e1
          rw [Ren.upd_ne ρ i' hm2] at e2
          obtain ⟨l2', hne⟩ := hlive κ hm2 l2
          exact absurd (h.inj κ ν k i e2 hi r2 hν l2' hlν (by omega)) hne
      · rw [Ren.upd_ne ρ i' hm] at e1
        obtain ⟨l1', hne⟩ := hlive μ hm l1
        by_cases hm2 : κ = s.next
        · subst hm2
          rw [Ren.upd_same] at e2; cases e2
          exact absurd (h.inj μ ν j i e1 hi r1 hν l1' hlν (by omega)) hne
        · rw [Ren.upd_ne ρ i' hm2] at e2
          exact h.inj μ κ j k e1 e2 r1 r2 l1' (hlive κ hm2 l2).1 eb
    · intro μ j x e e'
      rw [hget] at e'
      by_cases hm : μ = s.next
      · subst hm
        rw [Ren.upd_same] at e; cases e
        rw [if_pos rfl] at e'; cases e'
        exact ho
      · rw [Ren.upd_ne ρ i' hm] at e
        rw [if_neg hm] at e'
        by_cases hm2 : μ = ν
        · subst hm2
          rw [if_pos rfl] at e'; cases e'
          rw [hi] at e; cases e
          have hx := h.obj μ i _ hi hs
          exact ⟨hx.1, hx.2.1, hx.2.2.1, fun hd => by cases hd⟩
        · rw [if_neg hm2] at e'
          have hx := (h.obj μ j x e e').mono (Ren.le_upd i' hf)
          by_cases hal : x.alive = true
          · refine hx.congr (hw _ fun eb => ?_)
            by_cases hr : ro ≤ μ
            · exact hm2 (h.inj μ ν j i e hi hr hν ⟨x, e', hal⟩ hlν eb)
            · have a1 := h.rdo μ j e (by omega); have a2 := h.own ν i hi hν; omega
          · cases x with
            | cells b => exact ⟨hx.1, hx.2.1, hx.2.2.1, fun hd => absurd (by simp [AObj.alive, hd]) hal⟩
            | map _ _ => exact absurd rfl hal
            | siter _ _ => exact absurd rfl hal
            | miter _ _ _ _ => exact absurd rfl hal
  · intro μ j e0 e1
    by_cases hm : μ = s.next
    · subst hm; rw [Ren.upd_same] at e1; cases e1
      exact .inr ⟨ν, i, hν, hi, hlν, hb.symm⟩
    · rw [Ren.upd_ne ρ i' hm, e0] at e1; cases e1
  · intro β hβ hn
    exact hw β fun e => hn ν i hi hν hlν e.symm
  · intro μ j e l
    by_cases hm : μ = s.next
    · subst hm; rw [hf] at e; cases e
    · exact (hlive μ hm l).1
  · intro hwf μ x e
    rw [hget] at e
    by_cases hm : μ = s.next
    · simp only; omega
    · rw [if_neg hm] at e
      by_cases hm2 : μ = ν
      · subst hm2; have := hwf _ _ hs; simp only; omega
      · rw [if_neg hm2] at e; have := hwf μ x e; simp only; omega

end Go.Ab
