/- A part of the proof that what the evaluator says of a piece of code, the model does: no condition but those that each theorem states. -/
import Derived.Test.YtmlplblhabdbpaaEv0
import Derived.Laws.IdiomCopy
import Derived.Laws.StructEq
import Derived.Lib.ConvBytes
import Derived.Laws.BytesArg
import Derived.Laws.MakeOwn
namespace Go.Ab

/-! ### Lists -/

theorem nth_eq {α : Type} : ∀ (l : List α) (n : Nat), nth l n = l[n]?
  | [], _ => by simp [nth]
  | a :: l, 0 => by simp [nth]
  | a :: l, n + 1 => by simp [nth, nth_eq l n]

inductive L2 {α β : Type} (R : α → β → Prop) : List α → List β → Prop
  | nil : L2 R [] []
  | cons {a : α} {b : β} {l : List α} {m : List β} : R a b → L2 R l m → L2 R (a :: l) (b :: m)

section
variable {α β γ : Type} {R S : α → β → Prop}

theorem L2.length {l : List α} {m : List β} (h : L2 R l m) : l.length = m.length := by
  induction h with
  | nil => rfl
  | cons _ _ ih => simp [ih]

theorem L2.mono (hm : ∀ a b, R a b → S a b) {l : List α} {m : List β} (h : L2 R l m) : L2 S l m := by
  induction h with
  | nil => exact .nil
  | cons h _ ih => exact .cons (hm _ _ h) ih

theorem L2.get {l : List α} {m : List β} (h : L2 R l m) {i : Nat} {a : α} (ha : l[i]? = some a) : ∃ b, m[i]? = some b ∧ R a b := by
  induction h generalizing i with
  | nil => simp at ha
  | cons h _ ih =>
    cases i with
    | zero => simp at ha; subst ha; exact ⟨_, by simp, h⟩
    | succ i => simp at ha; obtain ⟨b, hb, hr⟩ := ih ha; exact ⟨b, by simpa using hb, hr⟩

theorem L2.get_none {l : List α} {m : List β} (h : L2 R l m) {i : Nat} (ha : l[i]? = none) : m[i]? = none := by
  have := h.length
  simp at ha ⊢
  omega

theorem L2.append {l l' : List α} {m m' : List β} (h : L2 R l m) (h' : L2 R l' m') : L2 R (l ++ l') (m ++ m') := by
  induction h with
  | nil => exact h'
  | cons h _ ih => exact .cons h ih

theorem L2.take {l : List α} {m : List β} (h : L2 R l m) (n : Nat) : L2 R (l.take n) (m.take n) := by
  induction h generalizing n with
  | nil => simp; exact .nil
  | cons h _ ih => cases n with
    | zero => exact .nil
    | succ n => exact .cons h (ih n)

theorem L2.drop {l : List α} {m : List β} (h : L2 R l m) (n : Nat) : L2 R (l.drop n) (m.drop n) := by
  induction h generalizing n with
  | nil => simp; exact .nil
  | cons h t ih => cases n with
    | zero => exact .cons h t
    | succ n => exact ih n

theorem L2.of_get : ∀ {l : List α} {m : List β}, l.length = m.length → (∀ (i : Nat) (a : α) (b : β), l[i]? = some a → m[i]? = some b → R a b) → L2 R l m
  | [], [], _, _ => .nil
  | [], _ :: _, h, _ => by simp at h
  | _ :: _, [], h, _ => by simp at h
  | a :: l, b :: m, h, hg => .cons (hg 0 a b rfl rfl) (L2.of_get (by simpa using h) fun i x y hx hy => hg (i + 1) x y (by simpa using hx) (by simpa using hy))

theorem L2.refl_of {R : α → α → Prop} : ∀ {l : List α}, (∀ a ∈ l, R a a) → L2 R l l
  | [], _ => .nil
  | a :: l, h => .cons (h a (by simp)) (L2.refl_of fun b hb => h b (by simp [hb]))

theorem L2.map {α' β' : Type} {R' : α' → β' → Prop} {f : α → α'} {g : β → β'} (hf : ∀ a b, R a b → R' (f a) (g b)) {l : List α} {m : List β} (h : L2 R l m) :
    L2 R' (l.map f) (m.map g) := by
  induction h with
  | nil => exact .nil
  | cons h _ ih => exact .cons (hf _ _ h) ih

theorem L2.map_same {α' : Type} {R' : α → β → Prop} {f : α' → α} {g : α' → β} : ∀ {l : List α'}, (∀ a ∈ l, R' (f a) (g a)) → L2 R' (l.map f) (l.map g)
  | [], _ => .nil
  | a :: l, h => .cons (h a (by simp)) (L2.map_same fun b hb => h b (by simp [hb]))

theorem L2.nil_left {m : List β} (h : L2 R [] m) : m = [] := by cases h; rfl
theorem L2.cons_left {a : α} {l : List α} {m : List β} (h : L2 R (a :: l) m) : ∃ b m', m = b :: m' ∧ R a b ∧ L2 R l m' := by
  cases h with
  | cons h t => exact ⟨_, _, rfl, h, t⟩
end

/-! ### The trie -/

section
variable {α : Type}

theorem natRec_if {R : Type} (A B : R) (x : Nat) : Nat.rec (motive := fun _ => R) A (fun _ _ => B) x = if x = 0 then A else B := by cases x <;> rfl

theorem T.setK_leaf {R : Type} (f m : Nat) (v : α) (k : T α → R) : T.setK (f + 1) .leaf (m + 1) v k =
    if m % 2 = 0 then T.setK f .leaf (m / 2) v (fun l => k (.node l none .leaf)) else T.setK f .leaf (m / 2) v (fun r => k (.node .leaf none r)) := natRec_if _ _ _
theorem T.setK_node {R : Type} (f m : Nat) (l r : T α) (u : Option α) (v : α) (k : T α → R) : T.setK (f + 1) (.node l u r) (m + 1) v k =
    if m % 2 = 0 then T.setK f l (m / 2) v (fun l => k (.node l u r)) else T.setK f r (m / 2) v (fun r => k (.node l u r)) := natRec_if _ _ _

theorem T.setK_eq : ∀ (f : Nat) {R : Type} (t : T α) (n : Nat) (v : α) (k : T α → R), T.setK f t n v k = k (T.setK f t n v id) := by
  intro f
  induction f with
  | zero => intro R t n v k; rfl
  | succ f ih =>
    intro R t n v k
    cases t with
    | leaf =>
      cases n with
      | zero => rfl
      | succ m =>
        rw [T.setK_leaf, T.setK_leaf]
        split
        · exact (ih _ _ _ (fun l => k (T.node l none T.leaf))).trans (congrArg k (ih _ _ _ (fun l => id (T.node l none T.leaf))).symm)
        · exact (ih _ _ _ (fun l => k (T.node T.leaf none l))).trans (congrArg k (ih _ _ _ (fun l => id (T.node T.leaf none l))).symm)
    | node l u r =>
      cases n with
      | zero => rfl
      | succ m =>
        rw [T.setK_node, T.setK_node]
        split
        · exact (ih _ _ _ (fun x => k (T.node x u r))).trans (congrArg k (ih _ _ _ (fun x => id (T.node x u r))).symm)
        · exact (ih _ _ _ (fun x => k (T.node l u x))).trans (congrArg k (ih _ _ _ (fun x => id (T.node l u x))).symm)

noncomputable def T.set (t : T α) (n : Nat) (v : α) : T α := T.setK (n + 1) t n v id

theorem T.get_leaf (n : Nat) : (T.leaf : T α).get n = none := by cases n <;> rfl

theorem T.get_zero (l r : T α) (u : Option α) : (T.node l u r).get 0 = u := rfl
theorem T.get_succ (l r : T α) (u : Option α) (m : Nat) : (T.node l u r).get (m + 1) = if m % 2 = 0 then l.get (m / 2) else r.get (m / 2) := by
  exact natRec_if _ _ _

def T.l : T α → T α | .leaf => .leaf | .node l _ _ => l
def T.r : T α → T α | .leaf => .leaf | .node _ _ r => r
def T.u : T α → Option α | .leaf => none | .node _ u _ => u

theorem T.get_zero' (t : T α) : t.get 0 = t.u := by cases t <;> rfl
theorem T.get_succ' (t : T α) (m : Nat) : t.get (m + 1) = if m % 2 = 0 then t.l.get (m / 2) else t.r.get (m / 2) := by
  cases t with
  | leaf => simp [T.get_leaf, T.l, T.r]
  | node l u r => exact T.get_succ l r u m

theorem T.setK_zero (f : Nat) (t : T α) (v : α) : T.setK (f + 1) t 0 v id = .node t.l (some v) t.r := by cases t <;> rfl
theorem T.setK_succ (f : Nat) (t : T α) (n : Nat) (v : α) :
    T.setK (f + 1) t (n + 1) v id = if n % 2 = 0 then .node (T.setK f t.l (n / 2) v id) t.u t.r else .node t.l t.u (T.setK f t.r (n / 2) v id) := by
  cases t with
  | leaf =>
    rw [T.setK_leaf]
    split
    · rw [T.setK_eq]; rfl
    · rw [T.setK_eq]; rfl
  | node l u r =>
    rw [T.setK_node]
    split
    · rw [T.setK_eq]; rfl
    · rw [T.setK_eq]; rfl

theorem T.get_setK : ∀ (f : Nat) (t : T α) (n : Nat) (v : α) (m : Nat), n < f → (T.setK f t n v id).get m = if m = n then some v else t.get m := by
  intro f
  induction f with
  | zero => intro t n v m h; omega
  | succ f ih =>
    intro t n v m h
    cases n with
    | zero =>
      rw [T.setK_zero]
      cases m with
      | zero => rfl
      | succ m => rw [if_neg (by omega), T.get_succ, T.get_succ']
    | succ n =>
      have hn : n / 2 < f := by omega
      rw [T.setK_succ]
      cases m with
      | zero => rw [if_neg (show ¬ 0 = n + 1 by omega), T.get_zero' t]; split <;> rfl
      | succ m =>
        by_cases h0 : n % 2 = 0
        · rw [if_pos h0, T.get_succ, T.get_succ']
          by_cases h1 : m % 2 = 0
          · rw [if_pos h1, if_pos h1, ih _ _ _ _ hn]
            by_cases e : m = n
            · subst e; rw [if_pos rfl, if_pos rfl]
            · rw [if_neg (by omega), if_neg (by omega)]
          · rw [if_neg h1, if_neg h1, if_neg (by omega)]
        · rw [if_neg h0, T.get_succ, T.get_succ']
          by_cases h1 : m % 2 = 0
          · rw [if_pos h1, if_pos h1, if_neg (by omega)]
          · rw [if_neg h1, if_neg h1, ih _ _ _ _ hn]
            by_cases e : m = n
            · subst e; rw [if_pos rfl, if_pos rfl]
            · rw [if_neg (by omega), if_neg (by omega)]

theorem T.get_set (t : T α) (n : Nat) (v : α) (m : Nat) : (t.set n v).get m = if m = n then some v else t.get m := T.get_setK _ _ _ _ _ (by omega)

theorem T.setK_set {R : Type} (t : T α) (n : Nat) (v : α) (k : T α → R) : T.setK (n + 1) t n v k = k (t.set n v) := T.setK_eq _ _ _ _ _
end

section
variable {R : Type}
noncomputable def T.sets (l : List Value) (i : Nat) (t : T Value) : T Value := T.setsK l i t id

theorem T.setsK_eq : ∀ (l : List Value) {R : Type} (i : Nat) (t : T Value) (k : T Value → R), T.setsK l i t k = k (T.sets l i t)
  | [], _, _, _, _ => rfl
  | v :: l, _, i, t, k => by
    unfold T.sets
    simp only [T.setsK, T.setK_set]
    rw [T.setsK_eq l, T.setsK_eq l (k := id)]
    rfl

theorem T.sets_cons (v : Value) (l : List Value) (i : Nat) (t : T Value) : T.sets (v :: l) i t = T.sets l (i + 1) (t.set i v) := by
  unfold T.sets; simp only [T.setsK, T.setK_set]

theorem T.get_sets : ∀ (l : List Value) (i : Nat) (t : T Value) (m : Nat), (T.sets l i t).get m = if i ≤ m ∧ m < i + l.length then l[m - i]? else t.get m
  | [], i, t, m => by
    have : ¬ (i ≤ m ∧ m < i + 0) := by omega
    simp only [List.length_nil, this, if_false]; rfl
  | v :: l, i, t, m => by
    rw [T.sets_cons, T.get_sets l, T.get_set]
    by_cases h1 : i + 1 ≤ m ∧ m < i + 1 + l.length
    · rw [if_pos h1, if_pos (by simp; omega)]
      obtain ⟨j, rfl⟩ : ∃ j, m = i + 1 + j := ⟨m - (i + 1), by omega⟩
      have e1 : i + 1 + j - (i + 1) = j := by omega
      have e2 : i + 1 + j - i = j + 1 := by omega
      rw [e1, e2]; simp
    · rw [if_neg h1]
      by_cases h2 : m = i
      · subst h2
        rw [if_pos rfl, if_pos (by simp)]; simp
      · rw [if_neg h2, if_neg (by simp; omega)]
end

end Go.Ab

namespace Go.Ab

/-! ### Names of blocks, and the values and heaps that they stand for -/

structure RI where
  b : Nat
  r : Nat
  n : Nat
  sz : Nat
  es : Nat
  opn : Bool
  fz : Bool

abbrev Ren := Nat → Option RI

def Ren.le (ρ ρ' : Ren) : Prop := ∀ ν i, ρ ν = some i → ρ' ν = some i
theorem Ren.le_refl (ρ : Ren) : ρ.le ρ := fun _ _ h => h
theorem Ren.le_trans {a b c : Ren} (h : a.le b) (k : b.le c) : a.le c := fun ν i e => k ν i (h ν i e)

def Ren.upd (ρ : Ren) (ν : Nat) (i : RI) : Ren := fun μ => if μ = ν then some i else ρ μ
theorem Ren.upd_same (ρ : Ren) (ν : Nat) (i : RI) : ρ.upd ν i ν = some i := by simp [Ren.upd]
theorem Ren.upd_ne (ρ : Ren) {ν μ : Nat} (i : RI) (h : μ ≠ ν) : ρ.upd ν i μ = ρ μ := by simp [Ren.upd, h]
theorem Ren.le_upd {ρ : Ren} {ν : Nat} (i : RI) (h : ρ ν = none) : ρ.le (ρ.upd ν i) := fun μ j e => by
  by_cases hm : μ = ν
  · subst hm; rw [h] at e; cases e
  · rw [Ren.upd_ne ρ i hm]; exact e

def SlcOk (i : RI) (o len cap o' cap' : Nat) : Prop :=
  (o' = i.r + o ∧ cap' = cap) ∨
  (i.opn = true ∧ o' = i.r + o ∧ o + cap * i.es = i.n ∧ cap ≤ cap' ∧ o' + cap' * i.es ≤ i.sz) ∨
  (i.opn = true ∧ len = 0 ∧ cap = 0 ∧ o = i.n ∧ i.r ≤ o' ∧ o' + cap' * i.es ≤ i.sz)

inductive VR (ρ : Ren) : Value → Value → Prop
  | unk (v : Value) : VR ρ (.chan (some 0)) v
  | bool (b : Bool) : VR ρ (.bool b) (.bool b)
  | int (k : IntKind) (n : Int) : VR ρ (.int k n) (.int k n)
  | float (k : FloatKind) (n : Nat) : VR ρ (.float k n) (.float k n)
  | complex (k : FloatKind) (n m : Nat) : VR ρ (.complex k n m) (.complex k n m)
  | string (s : ByteArray) : VR ρ (.string s) (.string s)
  | ptrNil : VR ρ (.pointer none) (.pointer none)
  | ptr {ν o : Nat} {i : RI} (h : ρ ν = some i) : VR ρ (.pointer (some ⟨ν, o, none⟩)) (.pointer (some ⟨i.b, i.r + o, none⟩))
  | slcNil (l c : Nat) : VR ρ (.slice none l c) (.slice none l c)
  | slc {ν o len cap o' cap' : Nat} {i : RI} (h : ρ ν = some i) (hs : SlcOk i o len cap o' cap') :
      VR ρ (.slice (some ⟨ν, o, none⟩) len cap) (.slice (some ⟨i.b, o', none⟩) len cap')
  /-- A slice of nothing, wherever it lies. -/
  | slcZ (A a : Addr) (h : A.spot ≠ none) : VR ρ (.slice (some A) 0 0) (.slice (some a) 0 0)
  | mapNil : VR ρ (.map none) (.map none)
  | map {ν : Nat} {i : RI} (h : ρ ν = some i) : VR ρ (.map (some ν)) (.map (some i.b))
  | chanNil : VR ρ (.chan none) (.chan none)
  | func (fn : Fn) (f f' c c' : Array Value) (hf : f.size = f'.size) (hc : c.size = c'.size)
      (h1 : ∀ (j : Nat) (a b : Value), f[j]? = some a → f'[j]? = some b → VR ρ a b) (h2 : ∀ (j : Nat) (a b : Value), c[j]? = some a → c'[j]? = some b → VR ρ a b) :
      VR ρ (.func fn f c) (.func fn f' c')
  | nilFunc : VR ρ .nilFunc .nilFunc
  | iface (t : TypeId) {v v' : Value} (h : VR ρ v v') : VR ρ (.iface t v) (.iface t v')
  | nilIface : VR ρ .nilIface .nilIface
  | agg (f f' : Array Value) (hf : f.size = f'.size) (h1 : ∀ (j : Nat) (a b : Value), f[j]? = some a → f'[j]? = some b → VR ρ a b) : VR ρ (.agg f) (.agg f')
  | tuple (f f' : Array Value) (hf : f.size = f'.size) (h1 : ∀ (j : Nat) (a b : Value), f[j]? = some a → f'[j]? = some b → VR ρ a b) : VR ρ (.tuple f) (.tuple f')

abbrev VRs (ρ : Ren) : List Value → List Value → Prop := L2 (VR ρ)

theorem VR.mono {ρ ρ' : Ren} (hl : ρ.le ρ') {v v' : Value} (h : VR ρ v v') : VR ρ' v v' := by
  induction h with
  | unk v => exact .unk v
  | bool b => exact .bool b
  | int k n => exact .int k n
  | float k n => exact .float k n
  | complex k n m => exact .complex k n m
  | string s => exact .string s
  | ptrNil => exact .ptrNil
  | ptr h => exact .ptr (hl _ _ h)
  | slcNil l c => exact .slcNil l c
  | slc h hs => exact .slc (hl _ _ h) hs
  | slcZ A a h => exact .slcZ A a h
  | mapNil => exact .mapNil
  | map h => exact .map (hl _ _ h)
  | chanNil => exact .chanNil
  | func fn f f' c c' hf hc h1 h2 i1 i2 => exact .func fn f f' c c' hf hc i1 i2
  | nilFunc => exact .nilFunc
  | iface t h ih => exact .iface t ih
  | nilIface => exact .nilIface
  | agg f f' hf h1 i1 => exact .agg f f' hf i1
  | tuple f f' hf h1 i1 => exact .tuple f f' hf i1

theorem VRs.mono {ρ ρ' : Ren} (hl : ρ.le ρ') {v v' : List Value} (h : VRs ρ v v') : VRs ρ' v v' := L2.mono (fun _ _ => VR.mono hl) h

theorem vrs_of_arr {ρ : Ren} {f f' : Array Value} (hf : f.size = f'.size) (h1 : ∀ (j : Nat) (a b : Value), f[j]? = some a → f'[j]? = some b → VR ρ a b) : VRs ρ f.toList f'.toList :=
  L2.of_get (by simpa using hf) fun i a b ha hb => h1 i a b (by simpa using ha) (by simpa using hb)

theorem arr_of_vrs {ρ : Ren} {l m : List Value} (h : VRs ρ l m) : l.toArray.size = m.toArray.size ∧ ∀ (j : Nat) (a b : Value), l.toArray[j]? = some a → m.toArray[j]? = some b → VR ρ a b := by
  refine ⟨by simpa using h.length, fun j a b ha hb => ?_⟩
  obtain ⟨b', hb', hr⟩ := h.get (i := j) (a := a) (by simpa using ha)
  have : b = b' := by
    have hb2 : m[j]? = some b := by simpa using hb
    rw [hb2] at hb'; exact Option.some.inj hb'
  exact this ▸ hr

theorem VR.agg_of {ρ : Ren} {l m : List Value} (h : VRs ρ l m) : VR ρ (.agg l.toArray) (.agg m.toArray) := .agg _ _ (arr_of_vrs h).1 (arr_of_vrs h).2
theorem VR.tuple_of {ρ : Ren} {l m : List Value} (h : VRs ρ l m) : VR ρ (.tuple l.toArray) (.tuple m.toArray) := .tuple _ _ (arr_of_vrs h).1 (arr_of_vrs h).2
theorem VR.func_of {ρ : Ren} {l m c d : List Value} (fn : Fn) (h : VRs ρ l m) (h' : VRs ρ c d) : VR ρ (.func fn l.toArray c.toArray) (.func fn m.toArray d.toArray) :=
  .func fn _ _ _ _ (arr_of_vrs h).1 (arr_of_vrs h').1 (arr_of_vrs h).2 (arr_of_vrs h').2

theorem VR.und (ρ : Ren) : VR ρ Ab.und Go.undef := VR.tuple_of (l := []) (m := []) .nil

theorem VR.agg_inv {ρ : Ren} {f : Array Value} {v : Value} (h : VR ρ (.agg f) v) : ∃ f', v = .agg f' ∧ VRs ρ f.toList f'.toList := by
  cases h with | agg _ f' hf h1 => exact ⟨f', rfl, vrs_of_arr hf h1⟩
theorem VR.tuple_inv {ρ : Ren} {f : Array Value} {v : Value} (h : VR ρ (.tuple f) v) : ∃ f', v = .tuple f' ∧ VRs ρ f.toList f'.toList := by
  cases h with | tuple _ f' hf h1 => exact ⟨f', rfl, vrs_of_arr hf h1⟩
theorem VR.func_inv {ρ : Ren} {fn : Fn} {f c : Array Value} {v : Value} (h : VR ρ (.func fn f c) v) : ∃ f' c', v = .func fn f' c' ∧ VRs ρ f.toList f'.toList ∧ VRs ρ c.toList c'.toList := by
  cases h with | func _ _ f' _ c' hf hc h1 h2 => exact ⟨f', c', rfl, vrs_of_arr hf h1, vrs_of_arr hc h2⟩

theorem closed_refl {ρ : Ren} : ∀ (d : Nat) (v : Value), closedV d v = true → VR ρ v v
  | 0, _, h => by simp [closedV] at h
  | d + 1, v, h => by
    cases v with
    | bool b => exact .bool b
    | int k n => exact .int k n
    | float k n => exact .float k n
    | complex k n m => exact .complex k n m
    | string s => exact .string s
    | pointer a => cases a with
      | none => exact .ptrNil
      | some a => simp [closedV] at h
    | slice a l c => cases a with
      | none => exact .slcNil l c
      | some a => simp [closedV] at h
    | map r => cases r with
      | none => exact .mapNil
      | some a => simp [closedV] at h
    | chan r => cases r with
      | none => exact .chanNil
      | some a => simp [closedV] at h
    | func fn f c =>
      simp [closedV] at h
      obtain ⟨h1, h2⟩ := h
      subst h1; subst h2
      exact VR.func_of (l := []) (m := []) (c := []) (d := []) fn .nil .nil
    | nilFunc => exact .nilFunc
    | iface t v => exact .iface t (closed_refl d v (by simpa [closedV] using h))
    | nilIface => exact .nilIface
    | agg cs =>
      simp only [closedV, List.all_eq_true] at h
      have : VRs ρ cs.toList cs.toList := L2.refl_of fun a ha => closed_refl d a (h a ha)
      exact VR.agg_of this
    | tuple vs => simp [closedV] at h

/-- The cells of related values are related. -/
theorem cellsV_rel {ρ : Ren} {v v' : Value} {l : List Value} (hv : VR ρ v v') (h : cellsV v = some l) : VRs ρ l v'.cells.toList := by
  cases hv <;> simp [cellsV] at h <;> (try subst h) <;> (try exact .cons (by constructor <;> assumption) .nil)
  case agg f f' hf h1 => exact vrs_of_arr hf h1

def AObj.alive : AObj → Bool
  | .cells b => !b.dead
  | _ => true

def EntR (ρ : Ren) (e e' : MapEntry) : Prop := VR ρ e.key e'.key ∧ VR ρ e.val e'.val ∧ e.born = e'.born

def CellsR (ρ : Ren) (i : RI) (b : Blk) (w : World) : Prop :=
  ∃ cs t fr, w.heap[i.b]? = some (.cells cs t fr) ∧ cs.size = i.sz ∧ i.r + i.n ≤ i.sz ∧ (i.fz = false → fr.1 = fr.2 ∨ cs.size ≤ fr.1) ∧ (b.str = false → fr.1 = fr.2) ∧
    (b.opn = false → i.r = 0 ∧ i.sz = i.n) ∧ ∀ j v, cellAt b j = some v → ∃ v', cs[i.r + j]? = some v' ∧ VR ρ v v'

def ObjR (ρ : Ren) (i : RI) (w : World) : AObj → Prop
  | .cells b => i.n = b.n ∧ i.opn = b.opn ∧ i.es = b.es ∧ (b.dead = false → CellsR ρ i b w)
  | .map es c => ∃ es', w.heap[i.b]? = some (.map es' c) ∧ L2 (EntR ρ) es es'.toList
  | .siter s p => i.r = 0 ∧ w.heap[i.b]? = some (.stringIter s p)
  | .miter m since seen stepped => i.r = 0 ∧ ∃ m', w.heap[i.b]? = some (.mapIter m' since seen.toArray stepped) ∧
      (match m with | none => m' = none | some μ => ∃ j, ρ μ = some j ∧ m' = some j.b)

theorem EntR.mono {ρ ρ' : Ren} (hl : ρ.le ρ') {e e' : MapEntry} (h : EntR ρ e e') : EntR ρ' e e' := ⟨h.1.mono hl, h.2.1.mono hl, h.2.2⟩

theorem CellsR.mono {ρ ρ' : Ren} (hl : ρ.le ρ') {i : RI} {b : Blk} {w : World} (h : CellsR ρ i b w) : CellsR ρ' i b w := by
  obtain ⟨cs, t, fr, h1, h2, h3, h4, h5, h6, h7⟩ := h
  exact ⟨cs, t, fr, h1, h2, h3, h4, h5, h6, fun j v e => let ⟨v', a, b⟩ := h7 j v e; ⟨v', a, b.mono hl⟩⟩

theorem ObjR.mono {ρ ρ' : Ren} (hl : ρ.le ρ') {i : RI} {w : World} {o : AObj} (h : ObjR ρ i w o) : ObjR ρ' i w o := by
  cases o with
  | cells b => exact ⟨h.1, h.2.1, h.2.2.1, fun hd => (h.2.2.2 hd).mono hl⟩
  | map es c => obtain ⟨es', h1, h2⟩ := h; exact ⟨es', h1, h2.mono fun _ _ => EntR.mono hl⟩
  | siter s p => exact h
  | miter m a b c =>
    obtain ⟨h0, m', h1, h2⟩ := h
    refine ⟨h0, m', h1, ?_⟩
    cases m with
    | none => exact h2
    | some μ => obtain ⟨j, e, e'⟩ := h2; exact ⟨j, hl _ _ e, e'⟩

theorem ObjR.congr {ρ : Ren} {i : RI} {w w' : World} {o : AObj} (hw : w'.heap[i.b]? = w.heap[i.b]?) (h : ObjR ρ i w o) : ObjR ρ i w' o := by
  cases o with
  | cells b =>
    refine ⟨h.1, h.2.1, h.2.2.1, fun hd => ?_⟩
    obtain ⟨cs, t, fr, h1, h2⟩ := h.2.2.2 hd
    exact ⟨cs, t, fr, hw.trans h1, h2⟩
  | map es c => obtain ⟨es', h1, h2⟩ := h; exact ⟨es', hw.trans h1, h2⟩
  | siter s p => exact ⟨h.1, hw.trans h.2⟩
  | miter m a b c => obtain ⟨h0, m', h1, h2⟩ := h; exact ⟨h0, m', hw.trans h1, h2⟩

def Live (H : Nat → Option AObj) (ν : Nat) : Prop := ∃ o, H ν = some o ∧ o.alive = true

structure Rel (B ro : Nat) (ρ : Ren) (H : Nat → Option AObj) (w : World) : Prop where
  base : B ≤ w.heap.size
  inb : ∀ ν i, ρ ν = some i → i.b < w.heap.size
  own : ∀ ν i, ρ ν = some i → ro ≤ ν → B ≤ i.b ∧ i.fz = false
  rdo : ∀ ν i, ρ ν = some i → ν < ro → i.b < B
  inj : ∀ ν μ i j, ρ ν = some i → ρ μ = some j → ro ≤ ν → ro ≤ μ → Live H ν → Live H μ → i.b = j.b → ν = μ
  obj : ∀ ν i o, ρ ν = some i → H ν = some o → ObjR ρ i w o

theorem Rel.sub {B ro : Nat} {ρ : Ren} {H H' : Nat → Option AObj} {w : World} (h : Rel B ro ρ H w) (hs : ∀ ν i o, ρ ν = some i → H' ν = some o → H ν = some o) : Rel B ro ρ H' w where
  base := h.base
  inb := h.inb
  own := h.own
  rdo := h.rdo
  inj := fun ν μ i j hi hj h1 h2 ⟨o1, l1, a1⟩ ⟨o2, l2, a2⟩ e => h.inj ν μ i j hi hj h1 h2 ⟨o1, hs _ _ _ hi l1, a1⟩ ⟨o2, hs _ _ _ hj l2, a2⟩ e
  obj := fun ν i o hi ho => h.obj ν i o hi (hs _ _ _ hi ho)

/-- All names stand below the next one. -/
def Wf (s : St) : Prop := ∀ ν o, s.heap.get ν = some o → ν < s.next

structure Step (B ro : Nat) (ρ : Ren) (s : St) (w : World) (ρ' : Ren) (s' : St) (w' : World) : Prop where
  le : ρ.le ρ'
  next : s.next ≤ s'.next
  dom : ∀ ν i, ρ ν = none → ρ' ν = some i → s.next ≤ ν ∧ ν < s'.next
  rel : Rel B ro ρ' s'.heap.get w'
  blk : ∀ ν i, ρ ν = none → ρ' ν = some i → w.heap.size ≤ i.b ∨ ∃ μ j, ro ≤ μ ∧ ρ μ = some j ∧ Live s.heap.get μ ∧ j.b = i.b
  frm : ∀ β, β < w.heap.size → (∀ μ j, ρ μ = some j → ro ≤ μ → Live s.heap.get μ → j.b ≠ β) → w'.heap[β]? = w.heap[β]?
  liv : ∀ ν i, ρ ν = some i → Live s'.heap.get ν → Live s.heap.get ν
  siz : w.heap.size ≤ w'.heap.size
  os : w'.os = w.os
  tape : w'.tape = w.tape
  output : w'.output = w.output
  wf : Wf s → Wf s'

theorem Step.refl {B ro : Nat} {ρ : Ren} {s : St} {w : World} (h : Rel B ro ρ s.heap.get w) : Step B ro ρ s w ρ s w where
  le := Ren.le_refl ρ
  next := Nat.le_refl _
  dom := fun ν i h1 h2 => by rw [h1] at h2; cases h2
  rel := h
  blk := fun ν i h1 h2 => by rw [h1] at h2; cases h2
  frm := fun _ _ _ => rfl
  liv := fun _ _ _ h => h
  siz := Nat.le_refl _
  os := rfl
  tape := rfl
  output := rfl
  wf := id

theorem Step.trans {B ro : Nat} {ρ ρ1 ρ2 : Ren} {s s1 s2 : St} {w w1 w2 : World} (h : Step B ro ρ s w ρ1 s1 w1) (k : Step B ro ρ1 s1 w1 ρ2 s2 w2) :
    Step B ro ρ s w ρ2 s2 w2 where
  le := Ren.le_trans h.le k.le
  next := Nat.le_trans h.next k.next
  dom := fun ν i h1 h2 => by
    cases e : ρ1 ν with
    | none => have := k.dom ν i e h2; have := h.next; omega
    | some j => have := h.dom ν j h1 e; have := k.next; omega
  rel := k.rel
  blk := fun ν i h1 h2 => by
    cases e : ρ1 ν with
    | some j =>
      have : i = j := by have := k.le ν j e; rw [h2] at this; exact Option.some.inj this
      subst this
      exact h.blk ν i h1 e
    | none =>
      rcases k.blk ν i e h2 with hb | ⟨μ, j, m1, m2, m3, m4⟩
      · exact .inl (Nat.le_trans h.siz hb)
      · cases e0 : ρ μ with
        | some j0 =>
          have : j0 = j := by have := h.le μ j0 e0; rw [m2] at this; exact (Option.some.inj this).symm
          subst this
          exact .inr ⟨μ, j0, m1, e0, h.liv μ j0 e0 m3, m4⟩
        | none =>
          rcases h.blk μ j e0 m2 with hb | ⟨μ', j', a, b, c, d⟩
          · exact .inl (m4 ▸ hb)
          · exact .inr ⟨μ', j', a, b, c, d.trans m4⟩
  frm := fun β hβ hn => by
    rw [k.frm β (Nat.lt_of_lt_of_le hβ h.siz) ?_, h.frm β hβ hn]
    intro μ j m1 m2 m3 e
    cases e0 : ρ μ with
    | some j0 =>
      have : j0 = j := by have := h.le μ j0 e0; rw [m1] at this; exact (Option.some.inj this).symm
      subst this
      exact hn μ j0 e0 m2 (h.liv μ j0 e0 m3) e
    | none =>
      rcases h.blk μ j e0 m1 with hb | ⟨μ', j', a, b, c, d⟩
      · omega
      · exact hn μ' j' b a c (d.trans e)
  liv := fun ν i hi hl => h.liv ν i hi (k.liv ν i (h.le _ _ hi) hl)
  siz := Nat.le_trans h.siz k.siz
  os := k.os.trans h.os
  tape := k.tape.trans h.tape
  output := k.output.trans h.output
  wf := fun e => k.wf (h.wf e)

/-- What a step leaves alone: all below the base. -/
theorem Step.below {B ro : Nat} {ρ ρ' : Ren} {s s' : St} {w w' : World} (h : Step B ro ρ s w ρ' s' w') (hr : Rel B ro ρ s.heap.get w) : Go.RowKit.Below B w w' where
  os := h.os
  tape := h.tape
  output := h.output
  size := h.siz
  block := fun k hk => h.frm k (Nat.lt_of_lt_of_le hk hr.base) fun μ j m1 m2 _ e => by have := hr.own μ j m1 m2; omega

/-- A draw turns nothing. -/
theorem Rel.drew {B ro : Nat} {ρ : Ren} {H : Nat → Option AObj} {w w' : World} (h : Rel B ro ρ H w) (hh : w'.heap = w.heap) : Rel B ro ρ H w' where
  base := hh ▸ h.base
  inb := fun ν i e => hh ▸ h.inb ν i e
  own := h.own
  rdo := h.rdo
  inj := h.inj
  obj := fun ν i o e e' => (h.obj ν i o e e').congr (by rw [hh])

theorem Step.drew {B ro : Nat} {ρ : Ren} {s : St} {w w' : World} (h : Rel B ro ρ s.heap.get w) (hh : w'.heap = w.heap) (h1 : w'.os = w.os) (h2 : w'.tape = w.tape) (h3 : w'.output = w.output) :
    Step B ro ρ s w ρ s w' where
  le := Ren.le_refl ρ
  next := Nat.le_refl _
  dom := fun ν i h1 h2 => by rw [h1] at h2; cases h2
  rel := h.drew hh
  blk := fun ν i h1 h2 => by rw [h1] at h2; cases h2
  frm := fun _ _ _ => by rw [hh]
  liv := fun _ _ _ h => h
  siz := by rw [hh]; exact Nat.le_refl _
  os := h1
  tape := h2
  output := h3
  wf := id

/-- A new block, under the next name. -/
theorem Step.new {B ro : Nat} {ρ : Ren} {s : St} {w w' : World} {o : AObj} {O : Obj} {i : RI} (h : Rel B ro ρ s.heap.get w) (hro : ro ≤ s.next) (hf : ρ s.next = none)
    (hb : i.b = w.heap.size) (hfz : i.fz = false) (hw : w'.heap = w.heap.push O) (h1 : w'.os = w.os) (h2 : w'.tape = w.tape) (h3 : w'.output = w.output)
    (ho : ObjR (ρ.upd s.next i) i w' o) : Step B ro ρ s w (ρ.upd s.next i) ⟨s.heap.set s.next o, s.next + 1⟩ w' := by
  have hsz : w'.heap.size = w.heap.size + 1 := by rw [hw]; simp
  have hold : ∀ k, k < w.heap.size → w'.heap[k]? = w.heap[k]? := fun k hk => by rw [hw, Array.getElem?_push, if_neg (by omega)]
  have hget : ∀ μ, (⟨s.heap.set s.next o, s.next + 1⟩ : St).heap.get μ = if μ = s.next then some o else s.heap.get μ := fun μ => T.get_set _ _ _ _
  refine
    { le := Ren.le_upd i hf, next := by simp, dom := ?_, rel := ?_, blk := ?_, frm := ?_, liv := ?_, siz := by omega, os := h1, tape := h2, output := h3, wf := ?_ }
  · intro ν j e0 e1
    by_cases hm : ν = s.next
    · subst hm; simp
    · rw [Ren.upd_ne ρ i hm, e0] at e1; cases e1
  · refine { base := by have := h.base; omega, inb := ?_, own := ?_, rdo := ?_, inj := ?_, obj := ?_ }
    · intro ν j e
      by_cases hm : ν = s.next
      · subst hm; rw [Ren.upd_same] at e; cases e; omega
      · rw [Ren.upd_ne ρ i hm] at e; have := h.inb ν j e; omega
    · intro ν j e hν
      by_cases hm : ν = s.next
      · subst hm; rw [Ren.upd_same] at e; cases e; exact ⟨by have := h.base; omega, hfz⟩
      · rw [Ren.upd_ne ρ i hm] at e; exact h.own ν j e hν
    · intro ν j e hν
      by_cases hm : ν = s.next
      · omega
      · rw [Ren.upd_ne ρ i hm] at e; exact h.rdo ν j e hν
    · intro ν μ j k e1 e2 r1 r2 l1 l2 eb
      by_cases hm : ν = s.next
      · subst hm
        rw [Ren.upd_same] at e1; cases e1
        by_cases hm2 : μ = s.next
        · exact hm2.symm
        · rw [Ren.upd_ne ρ i hm2] at e2; have := h.inb μ k e2; omega
      · rw [Ren.upd_ne ρ i hm] at e1
        by_cases hm2 : μ = s.next
        · subst hm2; rw [Ren.upd_same] at e2; cases e2; have := h.inb ν j e1; omega
        · rw [Ren.upd_ne ρ i hm2] at e2
          obtain ⟨o1, a1, b1⟩ := l1
          obtain ⟨o2, a2, b2⟩ := l2
          rw [hget, if_neg hm] at a1
          rw [hget, if_neg hm2] at a2
          exact h.inj ν μ j k e1 e2 r1 r2 ⟨o1, a1, b1⟩ ⟨o2, a2, b2⟩ eb
    · intro ν j o' e e'
      rw [hget] at e'
      by_cases hm : ν = s.next
      · subst hm
        rw [Ren.upd_same] at e; cases e
        rw [if_pos rfl] at e'; cases e'
        exact ho
      · rw [Ren.upd_ne ρ i hm] at e
        rw [if_neg hm] at e'
        exact ((h.obj ν j o' e e').mono (Ren.le_upd i hf)).congr (hold _ (h.inb ν j e))
  · intro ν j e0 e1
    by_cases hm : ν = s.next
    · subst hm; rw [Ren.upd_same] at e1; cases e1; exact .inl (by omega)
    · rw [Ren.upd_ne ρ i hm, e0] at e1; cases e1
  · intro β hβ _; exact hold β hβ
  · intro ν j e ⟨o', a, b⟩
    by_cases hm : ν = s.next
    · subst hm; rw [hf] at e; cases e
    · rw [hget, if_neg hm] at a; exact ⟨o', a, b⟩
  · intro hwf ν o' e
    rw [hget] at e
    by_cases hm : ν = s.next
    · simp only; omega
    · rw [if_neg hm] at e; have := hwf ν o' e; simp only; omega

/-- An object of one's own is turned. -/
theorem Step.turn {B ro : Nat} {ρ : Ren} {s : St} {w w' : World} {o o' : AObj} {i : RI} {ν : Nat} (h : Rel B ro ρ s.heap.get w) (hν : ro ≤ ν) (hi : ρ ν = some i)
    (hs : s.heap.get ν = some o) (hl : o.alive = true) (hsz : w'.heap.size = w.heap.size) (hw : ∀ k, k ≠ i.b → w'.heap[k]? = w.heap[k]?)
    (h1 : w'.os = w.os) (h2 : w'.tape = w.tape) (h3 : w'.output = w.output) (ho : ObjR ρ i w' o') : Step B ro ρ s w ρ ⟨s.heap.set ν o', s.next⟩ w' := by
  have hget : ∀ μ, (⟨s.heap.set ν o', s.next⟩ : St).heap.get μ = if μ = ν then some o' else s.heap.get μ := fun μ => T.get_set _ _ _ _
  have hlive : ∀ μ, Live (⟨s.heap.set ν o', s.next⟩ : St).heap.get μ → Live s.heap.get μ := by
    intro μ ⟨x, a, b⟩
    rw [hget] at a
    by_cases hm : μ = ν
    · subst hm; exact ⟨o, hs, hl⟩
    · rw [if_neg hm] at a; exact ⟨x, a, b⟩
  refine
    { le := Ren.le_refl ρ, next := Nat.le_refl _, dom := (fun μ j e0 e1 => by rw [e0] at e1; cases e1), rel := ?_, blk := (fun μ j e0 e1 => by rw [e0] at e1; cases e1), frm := ?_,
      liv := fun μ j _ l => hlive μ l, siz := by omega, os := h1, tape := h2, output := h3, wf := ?_ }
  · refine { base := by have := h.base; omega, inb := fun μ j e => by have := h.inb μ j e; omega, own := h.own, rdo := h.rdo, inj := ?_, obj := ?_ }
    · intro a b x y e1 e2 r1 r2 l1 l2 eb
      exact h.inj a b x y e1 e2 r1 r2 (hlive a l1) (hlive b l2) eb
    · intro μ j x e e'
      rw [hget] at e'
      by_cases hm : μ = ν
      · subst hm
        rw [hi] at e; cases e
        rw [if_pos rfl] at e'; cases e'
        exact ho
      · rw [if_neg hm] at e'
        have hx := h.obj μ j x e e'
        by_cases hal : x.alive = true
        · refine hx.congr (hw _ fun eb => ?_)
          by_cases hr : ro ≤ μ
          · exact hm (h.inj μ ν j i e hi hr hν ⟨x, e', hal⟩ ⟨o, hs, hl⟩ eb)
          · have a1 := h.rdo μ j e (by omega); have a2 := h.own ν i hi hν; omega
        · cases x with
          | cells b => exact ⟨hx.1, hx.2.1, hx.2.2.1, fun hd => absurd (by simp [AObj.alive, hd]) hal⟩
          | map _ _ => exact absurd rfl hal
          | siter _ _ => exact absurd rfl hal
          | miter _ _ _ _ => exact absurd rfl hal
  · intro β hβ hn
    exact hw β fun e => hn ν i hi hν ⟨o, hs, hl⟩ e.symm
  · intro hwf μ x e
    rw [hget] at e
    by_cases hm : μ = ν
    · subst hm; exact hwf _ _ hs
    · rw [if_neg hm] at e; exact hwf μ x e

/-- A block of one's own goes on under a new name, its old one dead. -/
theorem Step.renew {B ro : Nat} {ρ : Ren} {s : St} {w w' : World} {b : Blk} {o' : AObj} {i i' : RI} {ν : Nat} (h : Rel B ro ρ s.heap.get w) (hro : ro ≤ s.next) (hf : ρ s.next = none)
    (hν : ro ≤ ν) (hi : ρ ν = some i) (hs : s.heap.get ν = some (.cells b)) (hl : b.dead = false) (hb : i'.b = i.b) (hfz : i'.fz = false) (hsz : w'.heap.size = w.heap.size)
    (hw : ∀ k, k ≠ i.b → w'.heap[k]? = w.heap[k]?) (h1 : w'.os = w.os) (h2 : w'.tape = w.tape) (h3 : w'.output = w.output)
    (ho : ObjR (ρ.upd s.next i') i' w' o') :
    Step B ro ρ s w (ρ.upd s.next i') ⟨(s.heap.set ν (.cells { b with dead := true })).set s.next o', s.next + 1⟩ w' := by
  have hνn : ν ≠ s.next := fun e => by subst e; rw [hf] at hi; cases hi
  have hget : ∀ μ, (⟨(s.heap.set ν (.cells { b with dead := true })).set s.next o', s.next + 1⟩ : St).heap.get μ =
      if μ = s.next then some o' else if μ = ν then some (.cells { b with dead := true }) else s.heap.get μ := fun μ => by
    show T.get (T.set _ _ _) μ = _
    rw [T.get_set, T.get_set]
  have hlν : Live s.heap.get ν := ⟨_, hs, by simp [AObj.alive, hl]⟩
  have hlive : ∀ μ, μ ≠ s.next → Live (⟨(s.heap.set ν (.cells { b with dead := true })).set s.next o', s.next + 1⟩ : St).heap.get μ → Live s.heap.get μ ∧ μ ≠ ν := by
    intro μ hm ⟨x, a, c⟩
    rw [hget, if_neg hm] at a
    by_cases hm2 : μ = ν
    · rw [if_pos hm2] at a; cases a; simp [AObj.alive] at c
    · rw [if_neg hm2] at a; exact ⟨⟨x, a, c⟩, hm2⟩
  refine
    { le := Ren.le_upd i' hf, next := by simp, dom := ?_, rel := ?_, blk := ?_, frm := ?_, liv := ?_, siz := by omega, os := h1, tape := h2, output := h3, wf := ?_ }
  · intro μ j e0 e1
    by_cases hm : μ = s.next
    · subst hm; simp
    · rw [Ren.upd_ne ρ i' hm, e0] at e1; cases e1
  · refine { base := by have := h.base; omega, inb := ?_, own := ?_, rdo := ?_, inj := ?_, obj := ?_ }
    · intro μ j e
      by_cases hm : μ = s.next
      · subst hm; rw [Ren.upd_same] at e; cases e; have := h.inb ν i hi; omega
      · rw [Ren.upd_ne ρ i' hm] at e; have := h.inb μ j e; omega
    · intro μ j e hμ
      by_cases hm : μ = s.next
      · subst hm; rw [Ren.upd_same] at e; cases e; have := h.own ν i hi hν; exact ⟨by omega, hfz⟩
      · rw [Ren.upd_ne ρ i' hm] at e; exact h.own μ j e hμ
    · intro μ j e hμ
      by_cases hm : μ = s.next
      · omega
      · rw [Ren.upd_ne ρ i' hm] at e; exact h.rdo μ j e hμ
    · intro μ κ j k e1 e2 r1 r2 l1 l2 eb
      by_cases hm : μ = s.next
      · by_cases hm2 : κ = s.next
        · rw [hm, hm2]
        · subst hm
          rw [Ren.upd_same] at e1; cases e1
          rw [Ren.upd_ne ρ i' hm2] at e2
          obtain ⟨l2', hne⟩ := hlive κ hm2 l2
          exact absurd (h.inj κ ν k i e2 hi r2 hν l2' hlν (by omega)) hne
      · rw [Ren.upd_ne ρ i' hm] at e1
        obtain ⟨l1', hne⟩ := hlive μ hm l1
        by_cases hm2 : κ = s.next
        · subst hm2
          rw [Ren.upd_same] at e2; cases e2
          exact absurd (h.inj μ ν j i e1 hi r1 hν l1' hlν (by omega)) hne
        · rw [Ren.upd_ne ρ i' hm2] at e2
          exact h.inj μ κ j k e1 e2 r1 r2 l1' (hlive κ hm2 l2).1 eb
    · intro μ j x e e'
      rw [hget] at e'
      by_cases hm : μ = s.next
      · subst hm
        rw [Ren.upd_same] at e; cases e
        rw [if_pos rfl] at e'; cases e'
        exact ho
      · rw [Ren.upd_ne ρ i' hm] at e
        rw [if_neg hm] at e'
        by_cases hm2 : μ = ν
        · subst hm2
          rw [if_pos rfl] at e'; cases e'
          rw [hi] at e; cases e
          have hx := h.obj μ i _ hi hs
          exact ⟨hx.1, hx.2.1, hx.2.2.1, fun hd => by cases hd⟩
        · rw [if_neg hm2] at e'
          have hx := (h.obj μ j x e e').mono (Ren.le_upd i' hf)
          by_cases hal : x.alive = true
          · refine hx.congr (hw _ fun eb => ?_)
            by_cases hr : ro ≤ μ
            · exact hm2 (h.inj μ ν j i e hi hr hν ⟨x, e', hal⟩ hlν eb)
            · have a1 := h.rdo μ j e (by omega); have a2 := h.own ν i hi hν; omega
          · cases x with
            | cells b => exact ⟨hx.1, hx.2.1, hx.2.2.1, fun hd => absurd (by simp [AObj.alive, hd]) hal⟩
            | map _ _ => exact absurd rfl hal
            | siter _ _ => exact absurd rfl hal
            | miter _ _ _ _ => exact absurd rfl hal
  · intro μ j e0 e1
    by_cases hm : μ = s.next
    · subst hm; rw [Ren.upd_same] at e1; cases e1
      exact .inr ⟨ν, i, hν, hi, hlν, hb.symm⟩
    · rw [Ren.upd_ne ρ i' hm, e0] at e1; cases e1
  · intro β hβ hn
    exact hw β fun e => hn ν i hi hν hlν e.symm
  · intro μ j e l
    by_cases hm : μ = s.next
    · subst hm; rw [hf] at e; cases e
    · exact (hlive μ hm l).1
  · intro hwf μ x e
    rw [hget] at e
    by_cases hm : μ = s.next
    · simp only; omega
    · rw [if_neg hm] at e
      by_cases hm2 : μ = ν
      · subst hm2; have := hwf _ _ hs; simp only; omega
      · rw [if_neg hm2] at e; have := hwf μ x e; simp only; omega

end Go.Ab

namespace Go.Ab

section
variable {P : Program} {B ro : Nat} {ρ : Ren} {s : St} {w : World}

theorem add_none (b o n : Nat) : (⟨b, o, none⟩ : Addr).add n = ⟨b, o + n, none⟩ := by
  unfold Addr.add
  split
  · subst_vars; rfl
  · rfl

theorem liveBlk_some {ν : Nat} {b : Blk} (h : liveBlk s ν = some b) : s.heap.get ν = some (.cells b) ∧ b.dead = false := by
  unfold liveBlk at h
  split at h
  · rename_i b' hb
    cases hd : b'.dead with
    | true => simp [hd] at h
    | false => simp [hd] at h; subst h; exact ⟨hb, hd⟩
  · cases h

theorem live_cells {H : Nat → Option AObj} (hr : Rel B ro ρ H w) {ν : Nat} {b : Blk} {i : RI} (hH : H ν = some (.cells b)) (hd : b.dead = false) (hi : ρ ν = some i) :
    CellsR ρ i b w ∧ i.n = b.n ∧ i.opn = b.opn ∧ i.es = b.es :=
  let h := hr.obj ν i _ hi hH
  ⟨h.2.2.2 hd, h.1, h.2.1, h.2.2.1⟩

theorem cells_get {i : RI} {b : Blk} (h : CellsR ρ i b w) {o : Nat} {v : Value} (hv : cellAt b o = some v) : ∃ v', w.cell? ⟨i.b, i.r + o, none⟩ = some v' ∧ VR ρ v v' := by
  obtain ⟨cs, t, fr, h1, h2, h3, h4, h5, h6, h7⟩ := h
  obtain ⟨v', e, hv'⟩ := h7 o v hv
  exact ⟨v', by simp [World.cell?, h1, e], hv'⟩

theorem ldCell_sim (hr : Rel B ro ρ s.heap.get w) {ν o : Nat} {v : Value} {i : RI} (hi : ρ ν = some i) (h : ldCell s ν o = some v) :
    ∃ v', w.cell? ⟨i.b, i.r + o, none⟩ = some v' ∧ VR ρ v v' := by
  unfold ldCell at h
  split at h
  · rename_i b hb
    obtain ⟨h1, h2⟩ := liveBlk_some hb
    exact cells_get (live_cells hr h1 h2 hi).1 h
  · cases h

theorem cellsFrom_get (b : Blk) : ∀ (n o : Nat) (l : List Value), cellsFrom b o n = some l → l.length = n ∧ ∀ j v, l[j]? = some v → cellAt b (o + j) = some v
  | 0, o, l, h => by
    simp [cellsFrom] at h; subst h; exact ⟨rfl, fun j v e => by simp at e⟩
  | n + 1, o, l, h => by
    simp only [cellsFrom] at h
    split at h
    · rename_i v hv
      split at h
      · rename_i r hr
        cases h
        obtain ⟨h1, h2⟩ := cellsFrom_get b n (o + 1) r hr
        refine ⟨by simp [h1], fun j u e => ?_⟩
        cases j with
        | zero => simp at e; subst e; exact hv
        | succ j => simp at e; have := h2 j u e; rwa [show o + (j + 1) = o + 1 + j by omega]
      · cases h
    · cases h

theorem cells_list {i : RI} {b : Blk} (h : CellsR ρ i b w) : ∀ (l : List Value) (o : Nat), (∀ j v, l[j]? = some v → cellAt b (o + j) = some v) →
    ∃ l', VRs ρ l l' ∧ ∀ j v, l'[j]? = some v → w.cell? ⟨i.b, i.r + o + j, none⟩ = some v
  | [], o, _ => ⟨[], .nil, fun j v e => by simp at e⟩
  | v :: l, o, hg => by
    obtain ⟨v', h1, h2⟩ := cells_get h (hg 0 v rfl)
    obtain ⟨l', h3, h4⟩ := cells_list h l (o + 1) fun j u e => by have := hg (j + 1) u (by simpa using e); rwa [show o + 1 + j = o + (j + 1) by omega]
    refine ⟨v' :: l', .cons h2 h3, fun j u e => ?_⟩
    cases j with
    | zero => simp at e; subst e; simpa using h1
    | succ j => simp at e; have := h4 j u e; rwa [show i.r + (o + 1) + j = i.r + o + (j + 1) by omega] at this

theorem ldCells_sim (hr : Rel B ro ρ s.heap.get w) {ν o n : Nat} {l : List Value} {i : RI} (hi : ρ ν = some i) (h : ldCells s ν o n = some l) :
    ∃ l', l'.length = n ∧ VRs ρ l l' ∧ ∀ j v, l'[j]? = some v → w.cell? ⟨i.b, i.r + o + j, none⟩ = some v := by
  cases n with
  | zero => simp [ldCells] at h; subst h; exact ⟨[], rfl, .nil, fun j v e => by simp at e⟩
  | succ n =>
    simp only [ldCells] at h
    split at h
    · rename_i b hb
      obtain ⟨h1, h2⟩ := liveBlk_some hb
      obtain ⟨g1, g2⟩ := cellsFrom_get b _ _ _ h
      obtain ⟨l', a, c⟩ := cells_list (live_cells hr h1 h2 hi).1 l o g2
      exact ⟨l', by rw [← a.length, g1], a, c⟩
    · cases h

theorem run_und {t : TypeId} {d : TypeDesc} (h : P.underlying t = some d) : (underlying t).run P w = .ok d w := run_underlying h w

theorem szOf_some {t : TypeId} {n : Nat} (h : szOf P t = some n) : ∃ i, P.info? t = some i ∧ i.size = n := by
  unfold szOf at h
  split at h
  · rename_i i hi; cases h; exact ⟨i, hi, rfl⟩
  · cases h

theorem run_typeInfo' {t : TypeId} {i : TypeInfo} (h : P.info? t = some i) : (typeInfo t).run P w = .ok i w := by
  simp [typeInfo, h]

theorem run_sizeOf' {t : TypeId} {n : Nat} (h : szOf P t = some n) : (sizeOf t).run P w = .ok n w := by
  obtain ⟨i, hi, rfl⟩ := szOf_some h
  simp [sizeOf, run_typeInfo' hi]

theorem isAg_some {t : TypeId} {b : Bool} (h : isAg P t = some b) : (isAgg t).run P w = .ok b w := by
  unfold isAg at h
  split at h
  · rename_i u hu; cases h; simp [isAgg, run_und hu]
  · rename_i u v hu; cases h; simp [isAgg, run_und hu]
  · rename_i u h1 h2 hu
    cases h
    simp only [isAgg, Sem.run_bind, run_und hu, Result.andThen_ok]
    rfl
  · cases h

theorem run_loadCells' (b o : Nat) (l : List Value) (h : ∀ j v, l[j]? = some v → w.cell? ⟨b, o + j, none⟩ = some v) :
    (loadCells ⟨b, o, none⟩ l.length).run P w = .ok l.toArray w :=
  run_loadCells_list w _ _ fun j v e => by rw [add_none]; exact h j v e

theorem run_loadCells_n (b o n : Nat) (l : List Value) (hn : l.length = n) (h : ∀ j v, l[j]? = some v → w.cell? ⟨b, o + j, none⟩ = some v) :
    (loadCells ⟨b, o, none⟩ n).run P w = .ok l.toArray w := by subst hn; exact run_loadCells' b o l h

theorem ldVar_sim (hr : Rel B ro ρ s.heap.get w) {t : TypeId} {ν o : Nat} {sp : Option Nat} {v : Value} {a' : Addr} (h : ldVar P s t ⟨ν, o, sp⟩ = some v)
    (ha : VR ρ (.pointer (some ⟨ν, o, sp⟩)) (.pointer (some a'))) : ∃ v', (loadVar t a').run P w = .ok v' w ∧ VR ρ v v' := by
  cases ha with
  | ptr hi =>
    rename_i i
    simp only [ldVar] at h
    split at h
    · rename_i hag
      split at h
      · rename_i n hn
        split at h
        · rename_i l hl
          cases h
          obtain ⟨l', h1, h2, h3⟩ := ldCells_sim hr hi hl
          refine ⟨.agg l'.toArray, ?_, VR.agg_of h2⟩
          simp only [loadVar, Sem.run_bind, isAg_some hag, Result.andThen_ok, if_true, run_sizeOf' hn, run_loadCells_n _ _ _ l' h1 h3, Sem.run_pure]
        · cases h
      · cases h
    · rename_i hag
      obtain ⟨v', h1, h2⟩ := ldCell_sim hr hi h
      refine ⟨v', ?_, h2⟩
      simp [loadVar, isAg_some hag, h1]
    · cases h

theorem oneC_rel {v v' : Value} (h : VR ρ v v') (ho : oneC v = true) : v'.oneCell' = true := by
  cases h <;> simp [oneC] at ho <;> rfl

/-- A run of stores into one block. -/
theorem run_stores (b off : Nat) : ∀ (vs : List Value) (i : Nat) (w : World) (cs : Array Value) (t : TypeId) (fr : Nat × Nat), w.heap[b]? = some (.cells cs t fr) → off + i + vs.length ≤ cs.size →
    (fr.1 = fr.2 ∨ cs.size ≤ fr.1) → (∀ v ∈ vs, v.oneCell' = true) →
    ∃ w' cs', (storeCells ⟨b, off, none⟩ vs i).run P w = .ok () w' ∧ w'.heap.size = w.heap.size ∧ (∀ k, k ≠ b → w'.heap[k]? = w.heap[k]?) ∧ w'.heap[b]? = some (.cells cs' t fr) ∧ cs'.size = cs.size ∧
      (∀ j, cs'[j]? = if off + i ≤ j ∧ j < off + i + vs.length then vs[j - (off + i)]? else cs[j]?) ∧ w'.os = w.os ∧ w'.tape = w.tape ∧ w'.output = w.output
  | [], i, w, cs, t, fr, h, hs, hf, ho => ⟨w, cs, by simp [storeCells], rfl, fun _ _ => rfl, h, rfl, fun j => by rw [if_neg (by simp)], rfl, rfl, rfl⟩
  | v :: vs, i, w, cs, t, fr, h, hs, hf, ho => by
    simp only [List.length_cons] at hs
    have hlt : off + i < cs.size := by omega
    have hcell : w.cell? ⟨b, off + i, none⟩ = some cs[off + i] := by simp [World.cell?, h, hlt]
    have hfz : w.frozen? ⟨b, off + i, none⟩ = false := by
      simp only [World.frozen?, h]
      rcases hf with hf | hf
      · simp; omega
      · simp; omega
    have hb1 : (w.setCell ⟨b, off + i, none⟩ v).heap[b]? = some (.cells (cs.setIfInBounds (off + i) v) t fr) := by
      simp [World.setCell, Array.getElem?_modify, h]
    obtain ⟨w', cs', r1, r2, r3, r4, r5, r6, r7, r8, r9⟩ := run_stores b off vs (i + 1) (w.setCell ⟨b, off + i, none⟩ v) _ t fr hb1 (by simp; omega) (by simpa using hf) fun u hu => ho u (by simp [hu])
    refine ⟨w', cs', ?_, by rw [r2]; simp, fun k hk => ?_, r4, by rw [r5]; simp, fun j => ?_, r7, r8, r9⟩
    · simp only [storeCells, Sem.run_bind, add_none, run_store P w _ v .plain (ho v (by simp)), hcell, hfz, Bool.false_eq_true, if_false, Result.andThen_ok, r1]
    · rw [r3 k hk]; simp only [World.setCell, Array.getElem?_modify]; rw [if_neg (by simpa using fun e => hk e.symm)]
    · rw [r6, Array.getElem?_setIfInBounds]
      by_cases hj : off + i = j
      · subst hj
        rw [if_neg (by omega), if_pos rfl, if_pos hlt, if_pos (by simp)]; simp
      · rw [if_neg hj]
        by_cases h2 : off + (i + 1) ≤ j ∧ j < off + (i + 1) + vs.length
        · rw [if_pos h2, if_pos (by simp; omega)]
          obtain ⟨d, rfl⟩ : ∃ d, j = off + (i + 1) + d := ⟨j - (off + (i + 1)), by omega⟩
          have e1 : off + (i + 1) + d - (off + (i + 1)) = d := by omega
          have e2 : off + (i + 1) + d - (off + i) = d + 1 := by omega
          rw [e1, e2]; simp
        · rw [if_neg h2, if_neg (by simp; omega)]

theorem cellAt_sets {b : Blk} {vs : List Value} {o j : Nat} {v : Value} (hle : o + vs.length ≤ b.n) (h : cellAt { b with cells := T.sets vs o b.cells } j = some v) :
    (o ≤ j ∧ j < o + vs.length ∧ vs[j - o]? = some v) ∨ (¬ (o ≤ j ∧ j < o + vs.length) ∧ cellAt b j = some v) := by
  simp only [cellAt, T.get_sets] at h
  by_cases hj : o ≤ j ∧ j < o + vs.length
  · have hlt : Nat.blt j b.n = true := by simp [Nat.blt_eq]; omega
    rw [if_pos hj, hlt] at h
    have hsome : vs[j - o]? = some vs[j - o] := List.getElem?_eq_getElem (by omega)
    rw [hsome] at h
    simp at h
    exact .inl ⟨hj.1, hj.2, by rw [hsome, h]⟩
  · rw [if_neg hj] at h
    exact .inr ⟨hj, h⟩

theorem stCells_sim (hr : Rel B ro ρ s.heap.get w) {ν o : Nat} {vs vs' : List Value} {s' : St} {i : RI} (hi : ρ ν = some i) (h : stCells ro s ν o vs = some s') (hv : VRs ρ vs vs') :
    ∃ w', (storeCells ⟨i.b, i.r + o, none⟩ vs' 0).run P w = .ok () w' ∧ Step B ro ρ s w ρ s' w' := by
  cases vs with
  | nil =>
    simp [stCells] at h; subst h
    rw [L2.nil_left hv]
    exact ⟨w, by simp [storeCells], Step.refl hr⟩
  | cons v l =>
    simp only [stCells] at h
    split at h
    · rename_i b hb
      obtain ⟨hb1, hb2⟩ := liveBlk_some hb
      cases hc : (Nat.ble ro ν && Nat.ble (o + (v :: l).length) b.n && (v :: l).all oneC) with
      | false => rw [hc] at h; cases h
      | true =>
        rw [hc] at h
        simp only [cond_true, T.setsK_eq, setObjK, T.setK_set] at h
        cases h
        simp only [Bool.and_eq_true, Nat.ble_eq, List.all_eq_true] at hc
        obtain ⟨⟨hc1, hc2⟩, hc3⟩ := hc
        obtain ⟨hC, hn, ho, he⟩ := live_cells hr hb1 hb2 hi
        obtain ⟨cs, t, fr, h1, h2, h3, h4, h5, h6, h7⟩ := hC
        have hlen := hv.length
        obtain ⟨w', cs', r1, r2, r3, r4, r5, r6, r7, r8, r9⟩ := run_stores (P := P) i.b (i.r + o) vs' 0 w cs t fr h1 (by rw [← hlen]; omega) (h4 (hr.own ν i hi hc1).2) (by
          intro u hu
          obtain ⟨k, hk⟩ := List.mem_iff_getElem?.1 hu
          have hk2 : k < (v :: l).length := by rw [hlen]; exact (List.getElem?_eq_some_iff.1 hk).1
          obtain ⟨u', e1, e2⟩ := hv.get (i := k) (List.getElem?_eq_getElem hk2)
          rw [hk] at e1; cases e1
          exact oneC_rel e2 (hc3 _ (List.getElem_mem hk2)))
        refine ⟨w', r1, Step.turn hr hc1 hi hb1 (by simp [AObj.alive, hb2]) r2 r3 r7 r8 r9 ⟨hn, ho, he, fun _ => ?_⟩⟩
        refine ⟨cs', t, fr, r4, r5.trans h2, h3, by rw [r5]; exact h4, h5, h6, fun j u hu => ?_⟩
        rcases cellAt_sets hc2 hu with ⟨a1, a2, a3⟩ | ⟨a1, a2⟩
        · obtain ⟨u', e1, e2⟩ := hv.get a3
          refine ⟨u', ?_, e2⟩
          rw [r6, if_pos (by rw [← hlen]; omega)]
          rw [show i.r + j - (i.r + o + 0) = j - o by omega]; exact e1
        · obtain ⟨u', e1, e2⟩ := h7 j u a2
          refine ⟨u', ?_, e2⟩
          rw [r6, if_neg (by rw [← hlen]; omega)]; exact e1
    · cases h

theorem stVar_sim (hr : Rel B ro ρ s.heap.get w) {t : TypeId} {ν o : Nat} {sp : Option Nat} {v v' : Value} {a' : Addr} {s' : St} (h : stVar P ro s t ⟨ν, o, sp⟩ v = some s')
    (ha : VR ρ (.pointer (some ⟨ν, o, sp⟩)) (.pointer (some a'))) (hv : VR ρ v v') : ∃ w', (storeVar t a' v').run P w = .ok () w' ∧ Step B ro ρ s w ρ s' w' := by
  cases ha with
  | ptr hi =>
    rename_i i
    simp only [stVar] at h
    split at h
    · rename_i n hn
      split at h
      · cases h
      · rename_i l hl
        have hc := cellsV_rel hv hl
        cases hb : Nat.beq l.length n with
        | false => rw [hb] at h; cases h
        | true =>
          rw [hb] at h
          simp only [cond_true] at h
          have hb' : l.length = n := by simpa using hb
          obtain ⟨w', h1, h2⟩ := stCells_sim (P := P) hr hi h hc
          refine ⟨w', ?_, h2⟩
          have hsz : v'.cells.size = n := by rw [← hb', hc.length]; simp
          simp [storeVar, run_sizeOf' hn, hsz, h1]
    · cases h

end
end Go.Ab

namespace Go.Ab

section
variable {P : Program} {B ro : Nat} {ρ : Ren} {s : St} {w : World} {tm : T Value} {ac : Act}

/-! ### Reading related values backwards -/
theorem VR.bool_inv {b : Bool} {v : Value} (h : VR ρ (.bool b) v) : v = .bool b := by cases h; rfl
theorem VR.int_inv {k : IntKind} {n : Int} {v : Value} (h : VR ρ (.int k n) v) : v = .int k n := by cases h; rfl
theorem VR.string_inv {b : ByteArray} {v : Value} (h : VR ρ (.string b) v) : v = .string b := by cases h; rfl
theorem VR.ptrNil_inv {v : Value} (h : VR ρ (.pointer none) v) : v = .pointer none := by cases h; rfl
theorem VR.ptr_inv {a : Addr} {v : Value} (h : VR ρ (.pointer (some a)) v) : a.spot = none ∧ ∃ i, ρ a.block = some i ∧ v = .pointer (some ⟨i.b, i.r + a.off, none⟩) := by
  cases h with | ptr h => exact ⟨rfl, _, h, rfl⟩
theorem VR.slcNil_inv {l c : Nat} {v : Value} (h : VR ρ (.slice none l c) v) : v = .slice none l c := by cases h; rfl
theorem VR.slc_inv {a : Addr} {l c : Nat} {v : Value} (h : VR ρ (.slice (some a) l c) v) (hsp : a.spot = none) :
    a.spot = none ∧ ∃ i o' c', ρ a.block = some i ∧ v = .slice (some ⟨i.b, o', none⟩) l c' ∧ SlcOk i a.off l c o' c' := by
  cases h with
  | slc h hs => exact ⟨rfl, _, _, _, h, rfl, hs⟩
  | slcZ A a h => exact absurd hsp h
theorem VR.slc_some {a : Addr} {l c : Nat} {v : Value} (h : VR ρ (.slice (some a) l c) v) : ∃ a' c', v = .slice (some a') l c' := by
  cases h with
  | slc h hs => exact ⟨_, _, rfl⟩
  | slcZ A a h => exact ⟨_, _, rfl⟩
/-- A slice that has a place of no block is a slice of nothing. -/
theorem VR.slc_zero {a : Addr} {l c : Nat} {v : Value} (h : VR ρ (.slice (some a) l c) v) (hsp : a.spot ≠ none) : l = 0 ∧ c = 0 ∧ ∃ a', v = .slice (some a') 0 0 := by
  cases h with
  | slc h hs => exact absurd rfl hsp
  | slcZ A a h => exact ⟨rfl, rfl, _, rfl⟩
theorem VR.mapNil_inv {v : Value} (h : VR ρ (.map none) v) : v = .map none := by cases h; rfl
theorem VR.map_inv {r : Nat} {v : Value} (h : VR ρ (.map (some r)) v) : ∃ i, ρ r = some i ∧ v = .map (some i.b) := by
  cases h with | map h => exact ⟨_, h, rfl⟩
theorem VR.iface_inv {t : TypeId} {u v : Value} (h : VR ρ (.iface t u) v) : ∃ u', v = .iface t u' ∧ VR ρ u u' := by
  cases h with | iface t h => exact ⟨_, rfl, h⟩
theorem VR.nilIface_inv {v : Value} (h : VR ρ .nilIface v) : v = .nilIface := by cases h; rfl
theorem VR.nilFunc_inv {v : Value} (h : VR ρ .nilFunc v) : v = .nilFunc := by cases h; rfl

noncomputable def tmv (tm : T Value) (t : Nat) : Value := match tm.get t with | some v => v | none => und

def TmR (ρ : Ren) (tm : T Value) (tmps : Array Value) : Prop := ∀ t, VR ρ (tmv tm t) (tmps.getD t undef)

theorem opv_rel (h : TmR ρ tm ac.tmps) (x : Operand) : VR ρ (opv tm x) (ac.eval x) := by
  cases x with
  | tmp t => exact h t
  | const v =>
    simp only [opv, Act.eval]
    cases hc : closedV 3 v with
    | true => exact closed_refl 3 v hc
    | false => exact .unk _
  | global g => exact .unk _
  | func f => exact VR.func_of (l := []) (m := []) (c := []) (d := []) _ .nil .nil

def DefR (ρ : Ren) (d d' : Deferred) : Prop :=
  (∃ fn cap cap', d.target = .fn fn cap ∧ d'.target = .fn fn cap' ∧ VRs ρ cap.toList cap'.toList) ∧ VRs ρ d.args.toList d'.args.toList

def Res.next (s0 : St) : Res → Nat
  | .val _ s => s.next
  | _ => s0.next

/-- How what the model comes to stands to what the evaluator comes to. -/
def ResR (P : Program) (B ro : Nat) (ρ : Ren) (s : St) (w : World) (R : Result Next) : Res → Prop
  | .val v s' => ∃ ρ' w' v', (R = .ok (.value v') w' ∨ (R = .ok .skip w' ∧ v' = undef)) ∧ Step B ro ρ s w ρ' s' w' ∧ VR ρ' v v'
  | .call f args s' => s' = s ∧ ∃ args', R = (callFunc f args').run P w ∧ VRs ρ args args'.toList
  | .dfr d s' => s' = s ∧ ∃ d', R = .ok (.defer d') w ∧ DefR ρ d d'
  | .rcv s' => s' = s ∧ R = .ok .recover w
  | .pan v s' => s' = s ∧ ∃ v', R = .halt (.panic v') w ∧ VR ρ v v'

theorem ResR.same (hr : Rel B ro ρ s.heap.get w) {R : Result Next} {v v' : Value} (hR : R = .ok (.value v') w) (hv : VR ρ v v') : ResR P B ro ρ s w R (.val v s) :=
  ⟨ρ, w, v', .inl hR, Step.refl hr, hv⟩

theorem newObjK_eq {R : Type} (s : St) (o : AObj) (k : Nat → St → R) : newObjK s o k = k s.next ⟨s.heap.set s.next o, s.next + 1⟩ := by
  obtain ⟨h, n⟩ := s
  cases n with
  | zero => simp only [newObjK]; exact T.setK_set h 0 o _
  | succ m => simp only [newObjK]; exact T.setK_set h (m + 1) o _

theorem setObjK_eq {R : Type} (s : St) (ν : Nat) (o : AObj) (k : St → R) : setObjK s ν o k = k ⟨s.heap.set ν o, s.next⟩ := by
  simp only [setObjK]; exact T.setK_set _ _ _ _

theorem newRow_eq (s : St) (elem : TypeId) (opn : Bool) (es : Nat) (vs : List Value) (k : Nat → St → Option Res) :
    newRow s elem opn es vs k = k s.next ⟨s.heap.set s.next (.cells { cells := T.sets vs 0 .leaf, n := vs.length, z := [], elem, opn, es, str := false, dead := false }), s.next + 1⟩ := by
  simp only [newRow, T.setsK_eq, newObjK_eq]

theorem Step.newCells (hr : Rel B ro ρ s.heap.get w) (hro : ro ≤ s.next) (hf : ρ s.next = none) {b : Blk} {cs : Array Value} {t : TypeId} {fr : Nat × Nat} {w' : World}
    (hw : w'.heap = w.heap.push (.cells cs t fr)) (h1 : w'.os = w.os) (h2 : w'.tape = w.tape) (h3 : w'.output = w.output) (hfr : fr.1 = fr.2 ∨ cs.size ≤ fr.1) (hstr : b.str = false → fr.1 = fr.2)
    (hn : b.n ≤ cs.size) (hopn : b.opn = false → cs.size = b.n) (hc : ∀ j v, cellAt b j = some v → ∃ v', cs[j]? = some v' ∧ VR ρ v v') :
    Step B ro ρ s w (ρ.upd s.next ⟨w.heap.size, 0, b.n, cs.size, b.es, b.opn, false⟩) ⟨s.heap.set s.next (.cells b), s.next + 1⟩ w' := by
  refine Step.new hr hro hf rfl rfl hw h1 h2 h3 ⟨rfl, rfl, rfl, fun _ => ⟨cs, t, fr, ?_, rfl, by simpa using hn, fun _ => hfr, hstr, fun ho => ⟨rfl, hopn ho⟩, fun j v hv => ?_⟩⟩
  · rw [hw]; simp
  · obtain ⟨v', e, hv'⟩ := hc j v hv
    exact ⟨v', by simpa using e, hv'.mono (Ren.le_upd _ hf)⟩

theorem cellAt_row {vs : List Value} {elem : TypeId} {opn : Bool} {es : Nat} {str dead : Bool} {j : Nat} {v : Value}
    (h : cellAt { cells := T.sets vs 0 .leaf, n := vs.length, z := [], elem, opn, es, str, dead } j = some v) : vs[j]? = some v := by
  simp only [cellAt, T.get_sets, T.get_leaf] at h
  cases hb : Nat.blt j vs.length with
  | false => rw [hb] at h; cases h
  | true =>
    rw [hb] at h
    have hlt : j < vs.length := by simpa [Nat.blt_eq] using hb
    rw [if_pos ⟨Nat.zero_le _, by omega⟩, Nat.sub_zero, List.getElem?_eq_getElem hlt] at h
    rw [List.getElem?_eq_getElem hlt]
    simpa using h

theorem Step.newRow (hr : Rel B ro ρ s.heap.get w) (hro : ro ≤ s.next) (hf : ρ s.next = none) {vs vs' rest : List Value} {elem : TypeId} {opn : Bool} {es : Nat} {t : TypeId} {w' : World}
    (hw : w'.heap = w.heap.push (.cells (vs' ++ rest).toArray t)) (h1 : w'.os = w.os) (h2 : w'.tape = w.tape) (h3 : w'.output = w.output) (hv : VRs ρ vs vs') (hrest : opn = false → rest = []) :
    Step B ro ρ s w (ρ.upd s.next ⟨w.heap.size, 0, vs.length, (vs' ++ rest).length, es, opn, false⟩)
      ⟨s.heap.set s.next (.cells { cells := T.sets vs 0 .leaf, n := vs.length, z := [], elem, opn, es, str := false, dead := false }), s.next + 1⟩ w' := by
  have hl := hv.length
  refine Step.newCells hr hro hf (b := { cells := T.sets vs 0 .leaf, n := vs.length, z := [], elem, opn, es, str := false, dead := false }) hw h1 h2 h3 (.inl rfl) (fun _ => rfl) (by simp; omega) (fun ho => ?_) fun j v hj => ?_
  · rw [hrest ho]; simp [hl]
  · have hj' := cellAt_row hj
    obtain ⟨v', e1, e2⟩ := hv.get hj'
    refine ⟨v', ?_, e2⟩
    have : j < vs'.length := (List.getElem?_eq_some_iff.1 e1).1
    simp [List.getElem?_append_left this, e1]

theorem zeroC_some {t : TypeId} {z : List Value} (h : zeroC P t = some z) : ∃ i zv, P.info? t = some i ∧ i.zero = some zv ∧ closedV 3 zv = true ∧ cellsV zv = some z := by
  unfold zeroC zeroOf at h
  split at h
  · rename_i zv hz
    split at hz
    · rename_i i hi
      split at hz
      · rename_i z' hz'
        cases hcl : closedV 3 z' with
        | true => rw [hcl] at hz; cases hz; exact ⟨i, _, hi, hz', hcl, h⟩
        | false => rw [hcl] at hz; cases hz
      · cases hz
    · cases hz
  · cases h

theorem zeroOf_some {t : TypeId} {zv : Value} (hz : zeroOf P t = some zv) : (∀ w, (zeroValue t).run P w = .ok zv w) ∧ ∀ ρ, VR ρ zv zv := by
  unfold zeroOf at hz
  split at hz
  · rename_i i hi
    split at hz
    · rename_i z' hz'
      cases hcl : closedV 3 z' with
      | true => rw [hcl] at hz; cases hz; exact ⟨fun w => by simp [zeroValue, run_typeInfo' hi, hz'], fun ρ => closed_refl 3 _ hcl⟩
      | false => rw [hcl] at hz; cases hz
    · cases hz
  · cases hz

theorem zeroC_run {t : TypeId} {z : List Value} (h : zeroC P t = some z) : ∃ zv, (∀ w, (zeroValue t).run P w = .ok zv w) ∧ ∀ ρ, VRs ρ z zv.cells.toList := by
  obtain ⟨i, zv, hi, hz, hc, hv⟩ := zeroC_some h
  exact ⟨zv, fun w => by simp [zeroValue, run_typeInfo' hi, hz], fun ρ => cellsV_rel (closed_refl 3 zv hc) hv⟩

theorem map_arr {α β : Type} (f : α → β) (xs : Array α) : (xs.toList.map f).toArray = xs.map f := by apply Array.ext'; simp

/-! ### Operation by operation -/

/-- The claim on one operation. -/
def OpOk (P : Program) (B ro : Nat) (tm : T Value) (o : Oper) (s : St) (r : Res) : Prop :=
  ∀ (ρ : Ren) (w : World) (ac : Act), Rel B ro ρ s.heap.get w → TmR ρ tm ac.tmps → ro ≤ s.next → (∀ ν, s.next ≤ ν → ν < r.next s → ρ ν = none) →
    ResR P B ro ρ s w ((execOp ac.eval o).run P w) r

theorem ok_move {o : Oper} {x : Operand} {r : Res} (ho : o.op = .move x) (h : evalOp P ro tm o.op s = some r) : OpOk P B ro tm o s r := by
  intro ρ w ac hr ht hro hfr
  rw [ho] at h; simp only [evalOp] at h; cases h
  exact .same hr (by simp [execOp, ho]) (opv_rel ht x)

theorem ok_assign {o : Oper} {x : Operand} {r : Res} (ho : o.op = .assign x) (h : evalOp P ro tm o.op s = some r) : OpOk P B ro tm o s r := by
  intro ρ w ac hr ht hro hfr
  rw [ho] at h; simp only [evalOp] at h; cases h
  exact .same hr (by simp [execOp, ho]) (opv_rel ht x)

theorem ok_pick {o : Oper} {c a b : Operand} {r : Res} (ho : o.op = .pick c a b) (h : evalOp P ro tm o.op s = some r) : OpOk P B ro tm o s r := by
  intro ρ w ac hr ht hro hfr
  rw [ho] at h; simp only [evalOp] at h
  split at h
  · rename_i t hc
    cases h
    have h1 := opv_rel ht c
    rw [hc] at h1
    have h2 := h1.bool_inv
    refine .same hr (v' := if t then ac.eval a else ac.eval b) (by simp [execOp, ho, h2, asBool]) ?_
    cases t
    · exact opv_rel ht b
    · exact opv_rel ht a
  · cases h

theorem ok_alloc {o : Oper} {e : TypeId} {r : Res} (ho : o.op = .alloc e) (h : evalOp P ro tm o.op s = some r) : OpOk P B ro tm o s r := by
  intro ρ w ac hr ht hro hfr
  rw [ho] at h; simp only [evalOp] at h
  split at h
  · rename_i z hz
    rw [newRow_eq] at h; cases h
    obtain ⟨zv, hz1, hz2⟩ := zeroC_run hz
    have hf : ρ s.next = none := hfr _ (Nat.le_refl _) (by simp [Res.next])
    refine ⟨_, w.alloc (.cells zv.cells e), _, .inl ?_, Step.newRow hr hro hf (rest := []) (t := e) (by rw [List.append_nil, Array.toArray_toList]; rfl) rfl rfl rfl (hz2 ρ) (fun _ => rfl), .ptr (Ren.upd_same _ _ _)⟩
    simp [execOp, ho, Instr.alloc, hz1, newVar, Go.newRow]
  · cases h

theorem ok_box {o : Oper} {e : TypeId} {x : Operand} {r : Res} (ho : o.op = .box e x) (h : evalOp P ro tm o.op s = some r) : OpOk P B ro tm o s r := by
  intro ρ w ac hr ht hro hfr
  rw [ho] at h; simp only [evalOp] at h
  split at h
  · rename_i z hz
    rw [newRow_eq] at h; cases h
    have hz2 := cellsV_rel (opv_rel ht x) hz
    have hf : ρ s.next = none := hfr _ (Nat.le_refl _) (by simp [Res.next])
    refine ⟨_, w.alloc (.cells (ac.eval x).cells e), _, .inl ?_, Step.newRow hr hro hf (rest := []) (t := e) (by rw [List.append_nil, Array.toArray_toList]; rfl) rfl rfl rfl hz2 (fun _ => rfl), .ptr (Ren.upd_same _ _ _)⟩
    simp [execOp, ho, Instr.box, newVar, Go.newRow]
  · cases h

theorem ok_load {o : Oper} {t : TypeId} {x : Operand} {r : Res} (ho : o.op = .load t x) (h : evalOp P ro tm o.op s = some r) : OpOk P B ro tm o s r := by
  intro ρ w ac hr ht hro hfr
  rw [ho] at h; simp only [evalOp] at h
  split at h
  · rename_i a ha
    split at h
    · rename_i v hv
      cases h
      have h1 := opv_rel ht x
      rw [ha] at h1
      obtain ⟨hsp, i, hi, he⟩ := h1.ptr_inv
      obtain ⟨ab, ao, asp⟩ := a
      rw [he] at h1
      obtain ⟨v', r1, r2⟩ := ldVar_sim hr hv h1
      exact .same hr (v' := v') (by simp [execOp, ho, Instr.loadAt, he, Instr.sureAddr, r1]) r2
    · cases h
  · cases h

theorem ok_store {o : Oper} {t : TypeId} {x y : Operand} {r : Res} (ho : o.op = .store t x y) (h : evalOp P ro tm o.op s = some r) : OpOk P B ro tm o s r := by
  intro ρ w ac hr ht hro hfr
  rw [ho] at h; simp only [evalOp] at h
  split at h
  · rename_i a ha
    split at h
    · rename_i s1 hv
      cases h
      have h1 := opv_rel ht x
      rw [ha] at h1
      obtain ⟨hsp, i, hi, he⟩ := h1.ptr_inv
      obtain ⟨ab, ao, asp⟩ := a
      rw [he] at h1
      obtain ⟨w', r1, r2⟩ := stVar_sim hr hv h1 (opv_rel ht y)
      exact ⟨ρ, w', undef, .inr ⟨by simp [execOp, ho, Instr.storeAt, he, Instr.sureAddr, r1], rfl⟩, r2, VR.und ρ⟩
    · cases h
  · cases h

theorem ok_nilCheck {o : Oper} {x : Operand} {r : Res} (ho : o.op = .nilCheck x) (h : evalOp P ro tm o.op s = some r) : OpOk P B ro tm o s r := by
  intro ρ w ac hr ht hro hfr
  rw [ho] at h; simp only [evalOp] at h
  have h1 := opv_rel ht x
  split at h
  · rename_i a ha
    cases h
    rw [ha] at h1
    obtain ⟨hsp, i, hi, he⟩ := h1.ptr_inv
    exact .same hr (v' := ac.eval x) (by simp [execOp, ho, he]) h1
  · rename_i f a b ha
    cases h
    rw [ha] at h1
    obtain ⟨f', c', he, _⟩ := h1.func_inv
    exact .same hr (v' := ac.eval x) (by simp [execOp, ho, he]) h1
  · rename_i t v ha
    cases h
    rw [ha] at h1
    obtain ⟨v', he, _⟩ := h1.iface_inv
    exact .same hr (v' := ac.eval x) (by simp [execOp, ho, he]) h1
  · cases h

theorem ok_makeInterface {o : Oper} {t : TypeId} {x : Operand} {r : Res} (ho : o.op = .makeInterface t x) (h : evalOp P ro tm o.op s = some r) : OpOk P B ro tm o s r := by
  intro ρ w ac hr ht hro hfr
  rw [ho] at h; simp only [evalOp] at h
  have h1 := opv_rel ht x
  split at h
  · cases h
  · rename_i u hu hne
    cases h
    refine .same hr (v' := .iface t (ac.eval x)) ?_ (.iface t h1)
    simp only [execOp, ho, Instr.makeInterface, Sem.run_bind, run_und ‹_›, Result.andThen_ok]
    cases u <;> first | rfl | exact absurd rfl (hu _)
  · cases h

theorem vrs_ops (ht : TmR ρ tm ac.tmps) (l : List Operand) : VRs ρ (l.map (opv tm)) (l.map ac.eval) := L2.map_same fun x _ => opv_rel ht x

theorem ok_makeFunc {o : Oper} {fn : Fn} {f c : Array Operand} {r : Res} (ho : o.op = .makeFunc fn f c) (h : evalOp P ro tm o.op s = some r) : OpOk P B ro tm o s r := by
  intro ρ w ac hr ht hro hfr
  rw [ho] at h; simp only [evalOp] at h; cases h
  refine .same hr (v' := .func fn (f.toList.map ac.eval).toArray (c.toList.map ac.eval).toArray) ?_ (VR.func_of fn (vrs_ops ht _) (vrs_ops ht _))
  simp only [execOp, ho, Instr.makeFunc, map_arr]; rfl

theorem ok_extract {o : Oper} {x : Operand} {i : Nat} {r : Res} (ho : o.op = .extract x i) (h : evalOp P ro tm o.op s = some r) : OpOk P B ro tm o s r := by
  intro ρ w ac hr ht hro hfr
  rw [ho] at h; simp only [evalOp] at h
  have h1 := opv_rel ht x
  split at h
  · rename_i vs ha
    rw [ha] at h1
    obtain ⟨f', he, hv⟩ := h1.tuple_inv
    split at h
    · rename_i v hn
      cases h
      rw [nth_eq] at hn
      obtain ⟨v', e1, e2⟩ := hv.get hn
      refine .same hr (v' := v') ?_ e2
      have : f'[i]? = some v' := by simpa using e1
      simp [execOp, ho, Instr.extract, he, this]
    · cases h
  · cases h

theorem ok_unOp {o : Oper} {op : UnOp} {t : TypeId} {x : Operand} {r : Res} (ho : o.op = .unOp op t x) (h : evalOp P ro tm o.op s = some r) (hw : ∀ k n, wrapK k n = k.wrap n) : OpOk P B ro tm o s r := by
  intro ρ w ac hr ht hro hfr
  rw [ho] at h; simp only [evalOp] at h
  have h1 := opv_rel ht x
  split at h
  · rename_i v hv
    cases h
    unfold un at hv
    split at hv
    · rename_i k n ha
      cases hv
      rw [ha] at h1
      refine .same hr (v' := .int k (k.wrap (0 - n))) (by simp [execOp, ho, Op.unary, h1.int_inv, Op.intArith]) ?_
      rw [hw]; exact .int _ _
    · rename_i k n ha
      simp only [intBin] at hv
      cases hv
      rw [ha] at h1
      refine .same hr (v' := _) (by simp [execOp, ho, Op.unary, h1.int_inv, Op.intBits]) (.int _ _)
    · rename_i b ha
      cases hv
      rw [ha] at h1
      exact .same hr (v' := .bool !b) (by simp [execOp, ho, Op.unary, h1.bool_inv]) (.bool _)
    · cases hv
  · cases h

end
end Go.Ab

namespace Go.Ab

/-! ### Numbers and strings -/

theorem wrap_id {n : Int} (h1 : -9223372036854775808 ≤ n) (h2 : n < 9223372036854775808) : IntKind.wrap .i64 n = n := by
  have hm : (2 : Int) ^ IntKind.i64.bits = 18446744073709551616 := rfl
  have hm2 : (2 : Int) ^ (IntKind.i64.bits - 1) = 9223372036854775808 := rfl
  simp only [IntKind.wrap, hm, hm2, IntKind.signed, Bool.true_and]
  split
  · rename_i h; have h := of_decide_eq_true h; omega
  · rename_i h; have h : ¬ (n % 18446744073709551616 ≥ 9223372036854775808) := fun e => h (decide_eq_true e); omega

theorem wrapK_eq (k : IntKind) (n : Int) : wrapK k n = k.wrap n := by
  unfold wrapK
  split
  · rename_i m
    cases hb : Nat.blt m 9223372036854775808 with
    | true =>
      have : m < 9223372036854775808 := by simpa [Nat.blt_eq] using hb
      exact (wrap_id (n := (m : Int)) (by omega) (by omega)).symm
    | false => exact cond_false _ _
  · rename_i m
    cases hb : Nat.blt m 9223372036854775808 with
    | true =>
      have : m < 9223372036854775808 := by simpa [Nat.blt_eq] using hb
      exact (wrap_id (n := Int.negSucc m) (by omega) (by omega)).symm
    | false => exact cond_false _ _
  · rfl

theorem ltI_eq (x y : Int) : ltI x y = decide (x < y) := by
  cases x <;> cases y <;> simp only [ltI]
  · rename_i a b; rw [Bool.eq_iff_iff]; simp [Nat.blt_eq]
  · rename_i a b; symm; simp; omega
  · rename_i a b; symm; simp; omega
  · rename_i a b; rw [Bool.eq_iff_iff]; simp [Nat.blt_eq]; omega

theorem eqI_eq (x y : Int) : eqI x y = (x == y) := by
  cases x <;> cases y <;> simp only [eqI]
  · rename_i a b; rw [Bool.eq_iff_iff]; simp; omega
  · rename_i a b; symm; simp
  · rename_i a b; symm; simp
  · rename_i a b; rw [Bool.eq_iff_iff]; simp

theorem beqBytes_eq : ∀ (x y : List UInt8), beqBytes x y = (x == y)
  | [], [] => rfl
  | [], _ :: _ => rfl
  | _ :: _, [] => rfl
  | a :: x, b :: y => by
    simp only [beqBytes, List.cons_beq_cons, beqBytes_eq x y]
    by_cases h : a = b
    · subst h; simp
    · have : Nat.beq a.toNat b.toNat = false := by
        cases e : Nat.beq a.toNat b.toNat with
        | false => rfl
        | true => exact absurd (UInt8.toNat_inj.1 (Nat.eq_of_beq_eq_true e)) h
      rw [this]; simp [h]

theorem ltBytes_eq : ∀ (x y : List UInt8), ltBytes x y = Op.bytesLess x y
  | _, [] => by simp [ltBytes, Op.bytesLess]
  | [], _ :: _ => rfl
  | a :: x, b :: y => by
    simp only [ltBytes, Op.bytesLess, ltBytes_eq x y]
    by_cases h1 : a < b
    · have : Nat.blt a.toNat b.toNat = true := by simpa [Nat.blt_eq] using UInt8.lt_iff_toNat_lt.1 h1
      simp [this, h1]
    · have : Nat.blt a.toNat b.toNat = false := by
        cases e : Nat.blt a.toNat b.toNat with
        | false => rfl
        | true => exact absurd (UInt8.lt_iff_toNat_lt.2 (by simpa [Nat.blt_eq] using e)) h1
      rw [this]
      by_cases h2 : a = b
      · subst h2; simp
      · have : Nat.beq a.toNat b.toNat = false := by
          cases e : Nat.beq a.toNat b.toNat with
          | false => rfl
          | true => exact absurd (UInt8.toNat_inj.1 (Nat.eq_of_beq_eq_true e)) h2
        rw [this]; simp [h1, h2]

theorem bytesLess_total : ∀ (x y : List UInt8), (Op.bytesLess x y || x == y) = !Op.bytesLess y x
  | [], [] => rfl
  | [], _ :: _ => rfl
  | _ :: _, [] => rfl
  | a :: x, b :: y => by
    have ih := bytesLess_total x y
    simp only [Op.bytesLess, List.cons_beq_cons]
    by_cases h1 : a < b
    · have h2 : ¬ b < a := by rw [UInt8.lt_iff_toNat_lt] at *; omega
      have h3 : ¬ b = a := by rintro rfl; rw [UInt8.lt_iff_toNat_lt] at h1; omega
      simp [h1, h2, h3]
    · by_cases h2 : b < a
      · have h3 : ¬ a = b := by rintro rfl; rw [UInt8.lt_iff_toNat_lt] at h2; omega
        simp [h1, h2, h3]
      · have h3 : a = b := by rw [UInt8.lt_iff_toNat_lt] at *; exact UInt8.toNat_inj.1 (by omega)
        subst h3
        simp [h1, ih]

section
variable {P : Program} {B ro : Nat} {ρ : Ren} {s : St} {w : World} {tm : T Value} {ac : Act}

theorem run_intBin {op : BinOp} {k : IntKind} {x y : Int} {v : Value} {t : TypeId} (h : intBin op k x y = some v) : (binOp op t (.int k x) (.int k y)).run P w = .ok v w := by
  cases op <;> simp only [intBin] at h
  case quo =>
    cases he : eqI y 0 with
    | true => rw [he] at h; cases h
    | false =>
      rw [he] at h; cases h
      rw [eqI_eq] at he
      have : ¬ y = 0 := by simpa using he
      simp [binOp, Op.intDiv, this, wrapK_eq]
  case rem =>
    cases he : eqI y 0 with
    | true => rw [he] at h; cases h
    | false =>
      rw [he] at h; cases h
      rw [eqI_eq] at he
      have : ¬ y = 0 := by simpa using he
      simp [binOp, Op.intDiv, this]
  case neq => cases h; simp only [binOp, Op.intCmp, ne_eq, not_true_eq_false, if_false, Sem.run_pure, eqI_eq]; rfl
  case leq =>
    cases h
    have : decide (x ≤ y) = !decide (y < x) := by rw [Bool.eq_iff_iff]; simp
    simp only [binOp, Op.intCmp, ltI_eq, ne_eq, not_true_eq_false, if_false, Sem.run_pure, this]
  case geq =>
    cases h
    have : decide (x ≥ y) = !decide (x < y) := by rw [Bool.eq_iff_iff]; simp
    simp only [binOp, Op.intCmp, ltI_eq, ne_eq, not_true_eq_false, if_false, Sem.run_pure, this]
  all_goals first
    | (cases h; done)
    | (cases h; simp [binOp, Op.intArith, wrapK_eq]; done)
    | (cases h; simp [binOp, Op.intBits]; done)
    | (cases h; simp [binOp, Op.intCmp, eqI_eq]; done)
    | (cases h; simp only [binOp, Op.intCmp, ltI_eq, ne_eq, not_true_eq_false, if_false, Sem.run_pure, gt_iff_lt]; done)

theorem run_shiftBin {op : BinOp} {k k' : IntKind} {x y : Int} {v : Value} {t : TypeId} (hop : op = .shl ∨ op = .shr) (h : shiftBin op k x y = some v) : (binOp op t (.int k x) (.int k' y)).run P w = .ok v w := by
  unfold shiftBin at h
  split at h
  · cases h
  · rename_i m
    have hn : ¬ ((m : Int) < 0) := by omega
    rcases hop with rfl | rfl
    · simp only at h; cases h
      simp [binOp, Op.shift, hn, wrapK_eq, -Int.natCast_nonneg]
    · simp only at h; cases h
      simp [binOp, Op.shift, hn]

theorem run_strBin {op : BinOp} {x y : ByteArray} {v : Value} {t : TypeId} (h : strBin op x y = some v) : (binOp op t (.string x) (.string y)).run P w = .ok v w := by
  have htot := bytesLess_total x.data.toList y.data.toList
  cases op <;> simp only [strBin] at h
  case add =>
    cases he : Nat.ble (x.data.toList.length + y.data.toList.length) 1000000000 with
    | false => rw [he] at h; cases h
    | true =>
      rw [he] at h; cases h
      have h1 : x.data.toList.length + y.data.toList.length ≤ 1000000000 := by simpa using he
      have h2 : ¬ (((x.size + y.size : Nat) : Int) > IntKind.i64.max) := by
        have : IntKind.i64.max = 9223372036854775807 := rfl
        rw [this]
        have e1 : x.size = x.data.toList.length := by rw [Array.length_toList]; rfl
        have e2 : y.size = y.data.toList.length := by rw [Array.length_toList]; rfl
        omega
      have h3 : x ++ y = ⟨(x.data.toList ++ y.data.toList).toArray⟩ := by
        apply ByteArray.ext
        apply Array.ext'
        simp
      simp only [binOp, Op.stringOp, h2, if_false, Sem.run_pure, h3]
  case eql => cases h; simp only [binOp, Op.stringOp]; rw [ByteArray.toList_eq, ByteArray.toList_eq, beqBytes_eq]; rfl
  case neq => cases h; simp only [binOp, Op.stringOp]; rw [ByteArray.toList_eq, ByteArray.toList_eq, beqBytes_eq]; rfl
  case lss => cases h; simp only [binOp, Op.stringOp]; rw [ByteArray.toList_eq, ByteArray.toList_eq, ltBytes_eq]; rfl
  case leq => cases h; simp only [binOp, Op.stringOp]; rw [ByteArray.toList_eq, ByteArray.toList_eq, ltBytes_eq, htot]; rfl
  case gtr => cases h; simp only [binOp, Op.stringOp]; rw [ByteArray.toList_eq, ByteArray.toList_eq, ltBytes_eq, htot, Bool.not_not]; rfl
  case geq => cases h; simp only [binOp, Op.stringOp]; rw [ByteArray.toList_eq, ByteArray.toList_eq, ltBytes_eq]; rfl
  all_goals cases h

theorem part_sim {t : TypeId} {xs ys : List Value} {off : Nat} {v : Value} (hx : VRs ρ xs ys) (h : partOf P t xs off = some v) :
    ∃ v', (part t ys.toArray off).run P w = .ok v' w ∧ VR ρ v v' := by
  unfold partOf at h
  split at h
  · rename_i hag
    split at h
    · rename_i n hn
      cases h
      refine ⟨.agg ((ys.drop off).take n).toArray, ?_, VR.agg_of ((hx.drop off).take n)⟩
      have : ys.toArray.extract off (off + n) = ((ys.drop off).take n).toArray := by
        apply Array.ext'
        simp
      simp only [part, Sem.run_bind, isAg_some hag, Result.andThen_ok, if_true, run_sizeOf' hn, Sem.run_pure, this]
    · cases h
  · rename_i hag
    rw [nth_eq] at h
    obtain ⟨v', e1, e2⟩ := hx.get h
    refine ⟨v', ?_, e2⟩
    have : ys.toArray[off]? = some v' := by simpa using e1
    simp [part, isAg_some hag, this]
  · cases h

theorem part_sim' {t : TypeId} {xs : List Value} {ys : Array Value} {off : Nat} {v : Value} (hx : VRs ρ xs ys.toList) (h : partOf P t xs off = some v) :
    ∃ v', (part t ys off).run P w = .ok v' w ∧ VR ρ v v' := by
  have := part_sim (w := w) hx h
  simpa using this

/-- Two live blocks of one's own, or one of one's own and another's, are two blocks. -/
theorem eqAddr_sim (hr : Rel B ro ρ s.heap.get w) {a b : Addr} {i j : RI} {r : Bool} (hi : ρ a.block = some i) (hj : ρ b.block = some j) (h : eqAddr ro s a b = some r) :
    (sameAddr ⟨i.b, i.r + a.off, none⟩ ⟨j.b, j.r + b.off, none⟩).run P w = .ok r w := by
  unfold eqAddr at h
  split at h
  · cases he : Nat.beq a.block b.block with
    | true =>
      rw [he] at h
      simp only [cond_true] at h
      cases h
      have hab : a.block = b.block := Nat.eq_of_beq_eq_true he
      rw [hab] at hi
      rw [hi] at hj; cases hj
      simp only [sameAddr]
      have : (i.b == i.b) = true := by simp
      rw [if_pos this]
      simp only [Sem.run_pure]
      congr 1
      rw [Bool.eq_iff_iff]; simp
    | false =>
      rw [he] at h
      simp only [cond_false] at h
      split at h
      · rename_i x y hx hy
        obtain ⟨hx1, hx2⟩ := liveBlk_some hx
        obtain ⟨hy1, hy2⟩ := liveBlk_some hy
        cases hc : (x.str || y.str || (bif Nat.ble ro a.block then false else !(Nat.ble ro b.block))) with
        | true => rw [hc] at h; cases h
        | false =>
          rw [hc] at h
          cases h
          simp only [Bool.or_eq_false_iff] at hc
          obtain ⟨⟨hxs, hys⟩, hro⟩ := hc
          have hne : a.block ≠ b.block := fun e => by rw [e] at he; simp at he
          have hbn : i.b ≠ j.b := by
            intro e
            by_cases h1 : ro ≤ a.block
            · by_cases h2 : ro ≤ b.block
              · exact hne (hr.inj _ _ i j hi hj h1 h2 ⟨_, hx1, by simp [AObj.alive, hx2]⟩ ⟨_, hy1, by simp [AObj.alive, hy2]⟩ e)
              · have a1 := hr.own _ i hi h1; have a2 := hr.rdo _ j hj (by omega); omega
            · have hb1 : Nat.ble ro a.block = false := by
                cases e' : Nat.ble ro a.block with
                | false => rfl
                | true => exact absurd (Nat.le_of_ble_eq_true e') h1
              rw [hb1] at hro
              simp at hro
              have a1 := hr.own _ j hj hro; have a2 := hr.rdo _ i hi (by omega); omega
          obtain ⟨cs, t, fr, p1, p2, p3, p4, p5, p6, p7⟩ := (live_cells hr hx1 hx2 hi).1
          obtain ⟨cs', t', fr', q1, q2, q3, q4, q5, q6, q7⟩ := (live_cells hr hy1 hy2 hj).1
          have f1 : ∀ o, w.frozen? ⟨i.b, o, none⟩ = false := fun o => by
            have := p5 hxs
            simp only [World.frozen?, p1]; simp; omega
          have f2 : ∀ o, w.frozen? ⟨j.b, o, none⟩ = false := fun o => by
            have := q5 hys
            simp only [World.frozen?, q1]; simp; omega
          have s1 : w.shape? i.b = some (t, cs.size) := by simp [World.shape?, p1]
          have s2 : w.shape? j.b = some (t', cs'.size) := by simp [World.shape?, q1]
          have hb : (i.b == j.b) = false := by simpa using hbn
          simp [sameAddr, hb, f1, f2, noView, viewAt, s1, s2, mayBeOne, stringish, Result.andThen]
      · cases h
  · cases h

theorem eqFs_sim {d : Nat} {xs ys : List Value} {xs' ys' : Array Value} (hx : VRs ρ xs xs'.toList) (hy : VRs ρ ys ys'.toList)
    (ih : ∀ (t : TypeId) (x y x' y' : Value) (r : Bool), eqV P ro s d t x y = some r → VR ρ x x' → VR ρ y y' → ∀ D, d ≤ D → (Op.equalIn D t x' y').run P w = .ok r w) (D : Nat) (hD : d ≤ D) :
    ∀ (fs : List Field) (r : Bool), eqFs P (eqV P ro s d) xs ys fs = some r → (Op.eqFields D xs' ys' fs).run P w = .ok r w
  | [], r, h => by simp [eqFs] at h; subst h; simp [Op.eqFields]
  | f :: fs, r, h => by
    simp only [eqFs] at h
    simp only [Op.eqFields]
    by_cases hn : f.name ≠ "_"
    · rw [if_pos hn] at h ⊢
      split at h
      · rename_i a b ha hb
        obtain ⟨a', ra, va⟩ := part_sim' (w := w) hx ha
        obtain ⟨b', rb, vb⟩ := part_sim' (w := w) hy hb
        split at h
        · rename_i he
          have := ih _ _ _ _ _ _ he va vb D hD
          simp only [Sem.run_bind, ra, rb, Result.andThen_ok, this, Bool.not_true, Bool.false_eq_true, if_false]
          exact eqFs_sim hx hy ih D hD fs r h
        · rename_i he
          cases h
          have := ih _ _ _ _ _ _ he va vb D hD
          simp only [Sem.run_bind, ra, rb, Result.andThen_ok, this, Bool.not_false, if_true, Sem.run_pure]
        · cases h
      · cases h
    · rw [if_neg hn] at h ⊢
      exact eqFs_sim hx hy ih D hD fs r h

theorem eqEs_sim {d n : Nat} {elem : TypeId} {xs ys : List Value} {xs' ys' : Array Value} (hx : VRs ρ xs xs'.toList) (hy : VRs ρ ys ys'.toList)
    (ih : ∀ (t : TypeId) (x y x' y' : Value) (r : Bool), eqV P ro s d t x y = some r → VR ρ x x' → VR ρ y y' → ∀ D, d ≤ D → (Op.equalIn D t x' y').run P w = .ok r w) (D : Nat) (hD : d ≤ D) :
    ∀ (c i : Nat) (r : Bool), eqEs P (eqV P ro s d elem) elem n xs ys c i = some r →
      ((forIn (List.range' i c) (none, PUnit.unit) fun i (_ : Option Bool × PUnit) => do
        if !(← Op.equalIn D elem (← part elem xs' (i * n)) (← part elem ys' (i * n))) then pure (ForInStep.done (some false, PUnit.unit)) else pure (ForInStep.yield (none, PUnit.unit))).run P w) = .ok (if r then none else some false, PUnit.unit) w
  | 0, i, r, h => by simp [eqEs] at h; subst h; simp
  | c + 1, i, r, h => by
    simp only [eqEs] at h
    rw [List.range'_succ]
    simp only [List.forIn_cons, Sem.run_bind]
    split at h
    · rename_i a b ha hb
      obtain ⟨a', ra, va⟩ := part_sim' (w := w) hx ha
      obtain ⟨b', rb, vb⟩ := part_sim' (w := w) hy hb
      split at h
      · rename_i he
        have := ih _ _ _ _ _ _ he va vb D hD
        simp only [ra, rb, Result.andThen_ok, this, Bool.not_true, Bool.false_eq_true, if_false, Sem.run_pure]
        exact eqEs_sim hx hy ih D hD c (i + 1) r h
      · rename_i he
        cases h
        have := ih _ _ _ _ _ _ he va vb D hD
        simp only [ra, rb, Result.andThen_ok, this, Bool.not_false, if_true, Sem.run_pure, Bool.false_eq_true, if_false]
      · cases h
    · cases h

set_option maxHeartbeats 4000000 in
theorem eqV_sim (hr : Rel B ro ρ s.heap.get w) : ∀ (d : Nat) (t : TypeId) (x y x' y' : Value) (r : Bool), eqV P ro s d t x y = some r → VR ρ x x' → VR ρ y y' →
    ∀ D, d ≤ D → (Op.equalIn D t x' y').run P w = .ok r w := by
  intro d
  induction d with
  | zero => intro t x y x' y' r h; simp [eqV] at h
  | succ d ih =>
    intro t x y x' y' r h hx hy D hD
    obtain ⟨D, rfl⟩ : ∃ E, D = E + 1 := ⟨D - 1, by omega⟩
    have hD' : d ≤ D := by omega
    simp only [eqV] at h
    split at h
    · cases h
    · rename_i u hu
      have hru := run_und (w := w) hu
      split at h
      · cases h; rw [hx.bool_inv, hy.bool_inv]; simp [Op.equalIn, hru]
      · split at h
        · rename_i hk; cases h; rw [hx.int_inv, hy.int_inv]; simp [Op.equalIn, hru, hk, eqI_eq]
        · cases h
      · cases h; rw [hx.string_inv, hy.string_inv]; simp [Op.equalIn, hru, beqBytes_eq, beq_toListBytes, ByteArray.toList_eq]
      · cases h; rw [hx.ptrNil_inv, hy.ptrNil_inv]; simp [Op.equalIn, hru]
      · cases h
        obtain ⟨_, j, hj, he⟩ := hy.ptr_inv
        rw [hx.ptrNil_inv, he]; simp [Op.equalIn, hru]
      · cases h
        obtain ⟨_, j, hj, he⟩ := hx.ptr_inv
        rw [hy.ptrNil_inv, he]; simp [Op.equalIn, hru]
      · split at h
        · rename_i n hn
          obtain ⟨_, i, hi, hei⟩ := hx.ptr_inv
          obtain ⟨_, j, hj, hej⟩ := hy.ptr_inv
          have := eqAddr_sim (P := P) hr hi hj h
          rw [hei, hej]; simp [Op.equalIn, hru, run_sizeOf' hn, this]
        · cases h
      · cases h; rw [hx.nilIface_inv, hy.nilIface_inv]; simp [Op.equalIn, hru]
      · cases h
        obtain ⟨u', he, _⟩ := hy.iface_inv
        rw [hx.nilIface_inv, he]; simp [Op.equalIn, hru]
      · cases h
        obtain ⟨u', he, _⟩ := hx.iface_inv
        rw [hy.nilIface_inv, he]; simp [Op.equalIn, hru]
      · rename_i ms tx vx ty vy
        obtain ⟨vx', hex, hvx⟩ := hx.iface_inv
        obtain ⟨vy', hey, hvy⟩ := hy.iface_inv
        cases he : Nat.beq tx ty with
        | false =>
          rw [he] at h; cases h
          have hne : tx ≠ ty := fun e => by rw [e] at he; simp at he
          rw [hex, hey]; simp [Op.equalIn, hru, hne]
        | true =>
          rw [he] at h
          simp only [cond_true] at h
          have hty : tx = ty := Nat.eq_of_beq_eq_true he
          subst hty
          split at h
          · rename_i i hi
            cases hc : i.comparable with
            | false => rw [hc] at h; cases h
            | true =>
              rw [hc] at h
              simp only [cond_true] at h
              have := ih _ _ _ _ _ _ h hvx hvy D hD'
              rw [hex, hey]; simp [Op.equalIn, hru, run_typeInfo' hi, hc, this]
          · cases h
      · rename_i fields xs ys
        cases hs : P.stoodInHeld t with
        | true => rw [hs] at h; cases h
        | false =>
          rw [hs] at h
          simp only [cond_false] at h
          obtain ⟨xs', hex, hvx⟩ := hx.agg_inv
          obtain ⟨ys', hey, hvy⟩ := hy.agg_inv
          have hf : P.fieldsOf t = fields := by simp [Program.fieldsOf, hu]
          rw [hex, hey, run_equalIn_struct w D t xs' ys' (by rw [hf]; exact hu) hs, hf]
          exact eqFs_sim hvx hvy ih D hD' _ _ h
      · rename_i len elem xs ys
        split at h
        · rename_i n hn
          obtain ⟨xs', hex, hvx⟩ := hx.agg_inv
          obtain ⟨ys', hey, hvy⟩ := hy.agg_inv
          have := eqEs_sim hvx hvy ih D hD' len 0 r h
          rw [hex, hey]
          simp only [Op.equalIn, Sem.run_bind, hru, Result.andThen_ok, run_sizeOf' hn, Std.Legacy.Range.forIn_eq_forIn_range', Std.Legacy.Range.size, Nat.sub_zero, Nat.add_sub_cancel, Nat.div_one]
          rw [this]
          cases r <;> simp
        · cases h
      · cases h; rw [hx.slcNil_inv]; rename_i b _ _
        cases b with
        | none => rw [hy.slcNil_inv]; simp [Op.equalIn, hru]
        | some a => obtain ⟨a', c', he⟩ := hy.slc_some; rw [he]; simp [Op.equalIn, hru]
      · cases h; obtain ⟨a', c', he⟩ := hx.slc_some; rw [he, hy.slcNil_inv]; simp [Op.equalIn, hru]
      · cases h; rw [hx.mapNil_inv]; rename_i b
        cases b with
        | none => rw [hy.mapNil_inv]; simp [Op.equalIn, hru]
        | some a => obtain ⟨i, hi, he⟩ := hy.map_inv; rw [he]; simp [Op.equalIn, hru]
      · cases h; obtain ⟨i, hi, he⟩ := hx.map_inv; rw [he, hy.mapNil_inv]; simp [Op.equalIn, hru]
      · cases h; rw [hx.nilFunc_inv, hy.nilFunc_inv]; simp [Op.equalIn, hru]
      · cases h; obtain ⟨f', c', he, _⟩ := hy.func_inv; rw [hx.nilFunc_inv, he]; simp [Op.equalIn, hru]
      · cases h; obtain ⟨f', c', he, _⟩ := hx.func_inv; rw [hy.nilFunc_inv, he]; simp [Op.equalIn, hru]
      · cases h

end
end Go.Ab

namespace Go.Ab

section
variable {P : Program} {B ro : Nat} {ρ : Ren} {s : St} {w : World} {tm : T Value} {ac : Act}

theorem eqGuard_ok {op : BinOp} {t : TypeId} {x y : Operand} {a b a' b' : Value} (ha : VR ρ a a') (hb : VR ρ b b') (hs : eqShape a = true) (hs2 : eqShape b = true) (h : guardOk P t x y a b = true) :
    (eqGuard op t x y a' b').run P w = .ok () w := by
  by_cases hop : op = .eql ∨ op = .neq
  · have e0 : eqGuard op t x y a' b' = eqGuard .eql t x y a' b' := by rcases hop with rfl | rfl <;> rfl
    rw [e0]
    cases ha <;> first
      | (simp [eqShape] at hs; done)
      | rfl
      | skip
    · cases hb <;> first
        | (simp [eqShape] at hs2; done)
        | rfl
        | skip
      simp only [guardOk] at h
      cases x <;> cases y <;> first
        | rfl
        | (simp [isConstO] at h; done)
    · cases hb <;> first
        | (simp [eqShape] at hs2; done)
        | rfl
        | skip
      simp only [guardOk] at h
      exact run_eqGuard_agg w _ _ _ _ _ _ (by simpa using h)
  · cases op <;> first | rfl | exact absurd (.inl rfl) hop | exact absurd (.inr rfl) hop

theorem eqGuard_num {op : BinOp} {t : TypeId} {x y : Operand} {k k' : IntKind} {m n : Int} : (eqGuard op t x y (.int k m) (.int k' n)).run P w = .ok () w := by cases op <;> rfl
theorem eqGuard_str {op : BinOp} {t : TypeId} {x y : Operand} {m n : ByteArray} : (eqGuard op t x y (.string m) (.string n)).run P w = .ok () w := by cases op <;> rfl

theorem binOp_eql {t : TypeId} {a a' b' : Value} (ha : VR ρ a a') (hs : eqShape a = true) : (binOp .eql t a' b').run P w = ((Op.equal t a' b').run P w).andThen fun r w => .ok (.bool r) w := by
  cases ha <;> simp [eqShape] at hs <;> (cases b' <;> simp [binOp])
theorem binOp_neq {t : TypeId} {a a' b' : Value} (ha : VR ρ a a') (hs : eqShape a = true) : (binOp .neq t a' b').run P w = ((Op.equal t a' b').run P w).andThen fun r w => .ok (.bool (!r)) w := by
  cases ha <;> simp [eqShape] at hs <;> (cases b' <;> simp [binOp])

theorem ok_binOp {o : Oper} {op : BinOp} {t u : TypeId} {x y : Operand} {r : Res} (ho : o.op = .binOp op t x y u) (h : evalOp P ro tm o.op s = some r) : OpOk P B ro tm o s r := by
  intro ρ w ac hr ht hro hfr
  rw [ho] at h; simp only [evalOp] at h
  have hx := opv_rel ht x
  have hy := opv_rel ht y
  split at h
  · rename_i v hv
    cases h
    have key : ∀ v', (eqGuard op t x y (ac.eval x) (ac.eval y)).run P w = .ok () w → (binOp op t (ac.eval x) (ac.eval y)).run P w = .ok v' w →
        (execOp ac.eval o).run P w = .ok (.value v') w := by
      intro v' h1 h2
      simp [execOp, ho, h1, h2]
    unfold bin at hv
    split at hv
    · rename_i k m k' n ha hb
      rw [ha] at hx; rw [hb] at hy
      rw [hx.int_inv, hy.int_inv] at key
      have hc : ∃ k n, v = .int k n := by
        unfold shiftBin at hv; split at hv
        · cases hv
        · exact ⟨_, _, (by cases hv; rfl)⟩
      obtain ⟨k2, n2, rfl⟩ := hc
      exact .same hr (key _ eqGuard_num (run_shiftBin (.inl rfl) hv)) (.int _ _)
    · rename_i k m k' n ha hb
      rw [ha] at hx; rw [hb] at hy
      rw [hx.int_inv, hy.int_inv] at key
      have hc : ∃ k n, v = .int k n := by
        unfold shiftBin at hv; split at hv
        · cases hv
        · exact ⟨_, _, (by cases hv; rfl)⟩
      obtain ⟨k2, n2, rfl⟩ := hc
      exact .same hr (key _ eqGuard_num (run_shiftBin (.inr rfl) hv)) (.int _ _)
    · rename_i k m k' n _ _ ha hb
      rw [ha] at hx; rw [hb] at hy
      rw [hx.int_inv, hy.int_inv] at key
      split at hv
      · rename_i hk
        subst hk
        have hc : (∃ k n, v = .int k n) ∨ ∃ b, v = .bool b := by
          unfold intBin at hv
          split at hv <;> first
            | (cases hv; exact .inl ⟨_, _, rfl⟩)
            | (cases hv; exact .inr ⟨_, rfl⟩)
            | (cases hv; done)
            | (cases he : eqI n 0 <;> rw [he] at hv <;> cases hv; exact .inl ⟨_, _, rfl⟩)
        rcases hc with ⟨k2, n2, rfl⟩ | ⟨b, rfl⟩
        · exact .same hr (key _ eqGuard_num (run_intBin hv)) (.int _ _)
        · exact .same hr (key _ eqGuard_num (run_intBin hv)) (.bool _)
      · cases hv
    · rename_i m n ha hb
      rw [ha] at hx; rw [hb] at hy
      rw [hx.string_inv, hy.string_inv] at key
      have hc : (∃ b, v = .string b) ∨ ∃ b, v = .bool b := by
        unfold strBin at hv
        split at hv <;> first
          | (cases hv; exact .inr ⟨_, rfl⟩)
          | (cases hv; done)
          | skip
        cases he : Nat.ble (m.data.toList.length + n.data.toList.length) 1000000000 <;> rw [he] at hv <;> cases hv
        exact .inl ⟨_, rfl⟩
      rcases hc with ⟨b, rfl⟩ | ⟨b, rfl⟩
      · exact .same hr (key _ eqGuard_str (run_strBin hv)) (.string _)
      · exact .same hr (key _ eqGuard_str (run_strBin hv)) (.bool _)
    · cases hg : (eqShape (opv tm x) && eqShape (opv tm y) && guardOk P t x y (opv tm x) (opv tm y)) with
      | false => rw [hg] at hv; cases hv
      | true =>
        rw [hg] at hv
        simp only [cond_true] at hv
        simp only [Bool.and_eq_true] at hg
        split at hv
        · rename_i r he
          cases hv
          have := eqV_sim hr _ _ _ _ _ _ _ he hx hy Op.maxDepth (by decide)
          refine .same hr (key (.bool r) (eqGuard_ok hx hy hg.1.1 hg.1.2 hg.2) ?_) (.bool _)
          rw [binOp_eql hx hg.1.1]; simp [Op.equal, this]
        · cases hv
    · cases hg : (eqShape (opv tm x) && eqShape (opv tm y) && guardOk P t x y (opv tm x) (opv tm y)) with
      | false => rw [hg] at hv; cases hv
      | true =>
        rw [hg] at hv
        simp only [cond_true] at hv
        simp only [Bool.and_eq_true] at hg
        split at hv
        · rename_i r he
          cases hv
          have := eqV_sim hr _ _ _ _ _ _ _ he hx hy Op.maxDepth (by decide)
          refine .same hr (key (.bool (!r)) (eqGuard_ok hx hy hg.1.1 hg.1.2 hg.2) ?_) (.bool _)
          rw [binOp_neq hx hg.1.1]; simp [Op.equal, this]
        · cases hv
    · cases hv
  · cases h

theorem ok_makeMap {o : Oper} {t : TypeId} {x : Option Operand} {r : Res} (ho : o.op = .makeMap t x) (h : evalOp P ro tm o.op s = some r) : OpOk P B ro tm o s r := by
  intro ρ w ac hr ht hro hfr
  rw [ho] at h; simp only [evalOp, newObjK_eq] at h
  have fin : ∀ {w' : World}, w' = w.alloc (.map #[] 0) → (∀ ν, s.next ≤ ν → ν < s.next + 1 → ρ ν = none) → (execOp ac.eval o).run P w = .ok (.value (.map (some w.heap.size))) w' →
      ResR P B ro ρ s w ((execOp ac.eval o).run P w) (.val (.map (some s.next)) ⟨s.heap.set s.next (.map [] 0), s.next + 1⟩) := by
    intro w' hw hf he
    subst hw
    have hf : ρ s.next = none := hf _ (Nat.le_refl _) (by simp)
    refine ⟨ρ.upd s.next ⟨w.heap.size, 0, 0, 0, 0, false, false⟩, _, _, .inl he, Step.new hr hro hf rfl rfl (O := .map #[] 0) rfl rfl rfl rfl ⟨#[], by show (w.heap.push _)[w.heap.size]? = _; simp, .nil⟩, .map (Ren.upd_same _ _ _)⟩
  split at h
  · cases h
    refine fin rfl hfr ?_
    simp [execOp, ho, Instr.makeMap]
  · rename_i y
    split at h
    · rename_i k e kd n hu hn
      cases h
      have hy := opv_rel ht y
      rw [hn] at hy
      refine fin rfl hfr ?_
      simp [execOp, ho, Instr.makeMap, run_und hu, asInt, asIntOf, hy.int_inv]
    · cases h

theorem ok_fieldAddr {o : Oper} {t : TypeId} {x : Operand} {f : Nat} {r : Res} (ho : o.op = .fieldAddr t x f) (h : evalOp P ro tm o.op s = some r) : OpOk P B ro tm o s r := by
  intro ρ w ac hr ht hro hfr
  rw [ho] at h; simp only [evalOp] at h
  have hx := opv_rel ht x
  split at h
  · rename_i fs a hu ha
    rw [ha] at hx
    obtain ⟨hsp, i, hi, he⟩ := hx.ptr_inv
    split at h
    · rename_i fd hfd
      rw [nth_eq] at hfd
      have hfd' : fs[f]? = some fd := by simpa using hfd
      split at h
      · rename_i n hn
        cases h
        obtain ⟨ab, ao, asp⟩ := a
        simp only at hsp hi
        subst hsp
        have hadd : addA ⟨ab, ao, none⟩ fd.offset = ⟨ab, ao + fd.offset, none⟩ := by
          unfold addA; split
          · rename_i e; rw [e]; rfl
          · rename_i e; rw [e]
        refine .same hr (v' := .pointer (some ⟨i.b, i.r + ao + fd.offset, none⟩)) ?_ (by rw [hadd, Nat.add_assoc]; exact .ptr hi)
        simp [execOp, ho, Instr.fieldAt, run_und hu, hfd', he, Instr.sureAddr, fieldPlace, run_sizeOf' hn, add_none]
      · cases h
    · cases h
  · cases h

theorem ok_field {o : Oper} {t : TypeId} {x : Operand} {f : Nat} {r : Res} (ho : o.op = .field t x f) (h : evalOp P ro tm o.op s = some r) : OpOk P B ro tm o s r := by
  intro ρ w ac hr ht hro hfr
  rw [ho] at h; simp only [evalOp] at h
  have hx := opv_rel ht x
  split at h
  · rename_i fs cs hu ha
    rw [ha] at hx
    obtain ⟨cs', he, hv⟩ := hx.agg_inv
    split at h
    · rename_i fd hfd
      rw [nth_eq] at hfd
      have hfd' : fs[f]? = some fd := by simpa using hfd
      split at h
      · rename_i v hp
        cases h
        obtain ⟨v', r1, r2⟩ := part_sim' (w := w) hv hp
        refine .same hr (v' := v') ?_ r2
        simp [execOp, ho, Instr.field, run_und hu, hfd', he, asAgg, r1]
      · cases h
    · cases h
  · cases h

theorem addA_none (ab ao n : Nat) : addA ⟨ab, ao, none⟩ n = ⟨ab, ao + n, none⟩ := by
  unfold addA; split
  · rfl
  · rfl

theorem ok_indexAddr {o : Oper} {t : TypeId} {x y : Operand} {r : Res} (ho : o.op = .indexAddr t x y) (h : evalOp P ro tm o.op s = some r) : OpOk P B ro tm o s r := by
  intro ρ w ac hr ht hro hfr
  rw [ho] at h; simp only [evalOp] at h
  have hx := opv_rel ht x
  have hy := opv_rel ht y
  split at h
  · rename_i len elem a k i hu ha hi
    rw [ha] at hx; rw [hi] at hy
    obtain ⟨hsp, j, hj, he⟩ := hx.ptr_inv
    split at h
    · rename_i n hn
      cases hb : Nat.blt i len with
      | false => rw [hb] at h; cases h
      | true =>
        rw [hb] at h; cases h
        have hlt : i < len := by simpa [Nat.blt_eq] using hb
        obtain ⟨ab, ao, asp⟩ := a
        simp only at hsp hj
        subst hsp
        refine .same hr (v' := .pointer (some ⟨j.b, j.r + ao + i * n, none⟩)) ?_ (by rw [addA_none, Nat.add_assoc]; exact .ptr hj)
        have h2 : (0 : Int) ≤ Int.ofNat i ∧ Int.ofNat i < (len : Int) := ⟨by simp, by simpa using hlt⟩
        simp only [execOp, ho, Instr.indexAt, Sem.run_bind, hy.int_inv, asIntOf, Sem.run_pure, Result.andThen_ok, run_und hu, he, Instr.sureAddr, h2, and_self, if_true, run_sizeOf' hn, add_none]
        rfl
    · cases h
  · rename_i elem a len c k i hu ha hi
    rw [ha] at hx; rw [hi] at hy
    have hsp0 : a.spot = none := by
      cases e : a.spot with
      | none => rfl
      | some k =>
        obtain ⟨hl0, _⟩ := hx.slc_zero (by rw [e]; simp)
        subst hl0
        have hz : Nat.blt i 0 = false := by cases e : Nat.blt i 0 with | false => rfl | true => exact absurd (Nat.blt_eq.mp e) (Nat.not_lt_zero _)
        rw [hz] at h
        split at h <;> cases h
    obtain ⟨hsp, j, o', c', hj, he, hs⟩ := hx.slc_inv hsp0
    split at h
    · rename_i n hn
      cases hb : Nat.blt i len with
      | false => rw [hb] at h; cases h
      | true =>
        rw [hb] at h; cases h
        have hlt : i < len := by simpa [Nat.blt_eq] using hb
        have ho' : o' = j.r + a.off := by rcases hs with h1 | h1 | h1 <;> omega
        obtain ⟨ab, ao, asp⟩ := a
        simp only at hsp hj ho'
        subst hsp; subst ho'
        refine .same hr (v' := .pointer (some ⟨j.b, j.r + ao + i * n, none⟩)) ?_ (by rw [addA_none, Nat.add_assoc]; exact .ptr hj)
        have h2 : (0 : Int) ≤ Int.ofNat i ∧ Int.ofNat i < (len : Int) := ⟨by simp, by simpa using hlt⟩
        simp only [execOp, ho, Instr.indexAt, Sem.run_bind, hy.int_inv, asIntOf, Sem.run_pure, Result.andThen_ok, run_und hu, he, h2, and_self, if_true, run_sizeOf' hn, add_none]
        rfl
    · cases h
  · cases h

theorem ok_index {o : Oper} {t : TypeId} {x y : Operand} {r : Res} (ho : o.op = .index t x y) (h : evalOp P ro tm o.op s = some r) : OpOk P B ro tm o s r := by
  intro ρ w ac hr ht hro hfr
  rw [ho] at h; simp only [evalOp] at h
  have hx := opv_rel ht x
  have hy := opv_rel ht y
  split at h
  · rename_i len elem cs k i hu ha hi
    rw [ha] at hx; rw [hi] at hy
    obtain ⟨cs', he, hv⟩ := hx.agg_inv
    cases hb : Nat.blt i len with
    | false => rw [hb] at h; cases h
    | true =>
      rw [hb] at h
      simp only [cond_true] at h
      split at h
      · rename_i n hn
        split at h
        · rename_i v hp
          cases h
          have hlt : i < len := by simpa [Nat.blt_eq] using hb
          obtain ⟨v', r1, r2⟩ := part_sim' (w := w) hv hp
          refine .same hr (v' := v') ?_ r2
          have h2 : (0 : Int) ≤ Int.ofNat i ∧ Int.ofNat i < (len : Int) := ⟨by simp, by simpa using hlt⟩
          have h3 : (Int.ofNat i).toNat = i := rfl
          simp only [execOp, ho, Instr.index, Sem.run_bind, hy.int_inv, asIntOf, Sem.run_pure, Result.andThen_ok, run_und hu, he, h2, and_self, if_true, run_sizeOf' hn, h3, r1]
        · cases h
      · cases h
  · rename_i b k i hu ha hi
    rw [ha] at hx; rw [hi] at hy
    split at h
    · rename_i c hc
      cases h
      rw [nth_eq] at hc
      refine .same hr (v' := .int .u8 (.ofNat c.toNat)) ?_ (.int _ _)
      have h2 : (0 : Int) ≤ Int.ofNat i := by simp
      have h3 : (Int.ofNat i).toNat = i := rfl
      have hlt : i < b.size := by
        have := (List.getElem?_eq_some_iff.1 hc).1
        rw [Array.length_toList] at this; exact this
      have h4 : b[i]? = some c := by
        have e1 : b[i]? = some b[i] := getElem?_pos b i hlt
        rw [e1]
        have e2 : b.data.toList[i]? = some b[i] := by
          rw [Array.getElem?_toList, Array.getElem?_eq_getElem (by exact hlt)]; rfl
        rw [e2] at hc; exact hc
      simp only [execOp, ho, Instr.index, Sem.run_bind, hy.int_inv, asIntOf, Sem.run_pure, Result.andThen_ok, run_und hu, hx.string_inv, h2, if_true, h3, h4]
      rfl
    · cases h
  · cases h

theorem ok_typeAssert {o : Oper} {x : Operand} {xt t : TypeId} {ok : Bool} {r : Res} (ho : o.op = .typeAssert x xt t ok) (h : evalOp P ro tm o.op s = some r) : OpOk P B ro tm o s r := by
  intro ρ w ac hr ht hro hfr
  rw [ho] at h; simp only [evalOp] at h
  have hx := opv_rel ht x
  have tup : ∀ {v v' : Value} (b : Bool), VR ρ v v' → VR ρ (.tuple #[v, .bool b]) (.tuple #[v', .bool b]) := fun b hv => VR.tuple_of (.cons hv (.cons (.bool b) .nil))
  split at h
  · cases h
  · rename_i u tx v hu hne ha
    rw [ha] at hx
    obtain ⟨v', he, hv⟩ := hx.iface_inv
    cases hb : Nat.beq tx t with
    | true =>
      rw [hb] at h; cases h
      have : tx = t := Nat.eq_of_beq_eq_true hb
      subst this
      cases ok with
      | true =>
        refine .same hr (v' := .tuple #[v', .bool true]) ?_ (tup true hv)
        simp only [execOp, ho, Instr.typeAssert, Sem.run_bind, run_und ‹_›, Result.andThen_ok, he]
        cases u <;> first | exact absurd rfl (hu _) | simp
      | false =>
        refine .same hr (v' := v') ?_ hv
        simp only [execOp, ho, Instr.typeAssert, Sem.run_bind, run_und ‹_›, Result.andThen_ok, he]
        cases u <;> first | exact absurd rfl (hu _) | simp
    | false =>
      rw [hb] at h
      have hne2 : ¬ tx = t := fun e => by rw [e] at hb; simp at hb
      cases ok with
      | false => cases h
      | true =>
        simp only [cond_false, cond_true] at h
        split at h
        · rename_i z hz
          cases h
          obtain ⟨z1, z2⟩ := zeroOf_some hz
          refine .same hr (v' := .tuple #[z, .bool false]) ?_ (tup false (z2 ρ))
          simp only [execOp, ho, Instr.typeAssert, Sem.run_bind, run_und ‹_›, Result.andThen_ok, he]
          cases u <;> first | exact absurd rfl (hu _) | simp [hne2, z1]
        · cases h
  · rename_i u hu hne ha
    rw [ha] at hx
    cases ok with
    | false => cases h
    | true =>
      simp only [cond_true] at h
      split at h
      · rename_i z hz
        cases h
        obtain ⟨z1, z2⟩ := zeroOf_some hz
        refine .same hr (v' := .tuple #[z, .bool false]) ?_ (tup false (z2 ρ))
        simp only [execOp, ho, Instr.typeAssert, Sem.run_bind, run_und ‹_›, Result.andThen_ok, hx.nilIface_inv]
        cases u <;> first | exact absurd rfl (hu _) | simp [z1]
      · cases h
  · cases h

theorem ok_panic {o : Oper} {x : Operand} {r : Res} (ho : o.op = .panic x) (h : evalOp P ro tm o.op s = some r) : OpOk P B ro tm o s r := by
  intro ρ w ac hr ht hro hfr
  rw [ho] at h; simp only [evalOp] at h
  have hx := opv_rel ht x
  split at h
  · rename_i t v ha
    cases h
    rw [ha] at hx
    obtain ⟨v', he, hv⟩ := hx.iface_inv
    exact ⟨rfl, .iface t v', by simp [execOp, ho, Instr.panic, he], .iface t hv⟩
  · cases h

theorem ok_defer {o : Oper} {c : Call} {r : Res} (ho : o.op = .defer c) (h : evalOp P ro tm o.op s = some r) : OpOk P B ro tm o s r := by
  intro ρ w ac hr ht hro hfr
  rw [ho] at h; simp only [evalOp] at h
  split at h
  · rename_i f hf
    have hx := opv_rel ht f
    split at h
    · rename_i fn fi ca ha
      cases h
      rw [ha] at hx
      obtain ⟨f', c', he, h1, h2⟩ := hx.func_inv
      refine ⟨rfl, { target := .fn fn c', args := f' ++ c.args.map ac.eval }, ?_, ⟨fn, ca, c', rfl, rfl, h2⟩, ?_⟩
      · simp [execOp, ho, resolve, hf, he, Deferred.ofValue]
      · simpa using h1.append (vrs_ops ht c.args.toList)
    · cases h
  · cases h

theorem ok_callValue {o : Oper} {c : Call} {f : Operand} {r : Res} (ho : o.op = .call c) (hc : c.callee = .value f) (h : evalOp P ro tm o.op s = some r) : OpOk P B ro tm o s r := by
  intro ρ w ac hr ht hro hfr
  rw [ho] at h; simp only [evalOp, hc] at h
  have hx := opv_rel ht f
  split at h
  · rename_i g args ha
    cases h
    unfold callTarget at ha
    split at ha
    · rename_i g' fi ca hf
      cases ha
      rw [hf] at hx
      obtain ⟨f', c', he, h1, h2⟩ := hx.func_inv
      refine ⟨rfl, f' ++ c.args.map ac.eval ++ c', ?_, ?_⟩
      · simp [execOp, ho, resolve, hc, he, Deferred.ofValue, invoke]
      · have := h1.append ((vrs_ops ht c.args.toList).append h2)
        simpa using this
    · cases ha
  · cases h

end
end Go.Ab

namespace Go.Ab

section
variable {P : Program} {B ro : Nat} {ρ : Ren} {s : St} {w : World} {tm : T Value} {ac : Act}

/-! ### Slicing -/

inductive OR (ρ : Ren) : Option Value → Option Value → Prop
  | none : OR ρ none none
  | some {v v' : Value} (h : VR ρ v v') : OR ρ (some v) (some v')

theorem or_ops (ht : TmR ρ tm ac.tmps) (x : Option Operand) : OR ρ (x.map (opv tm)) (x.map ac.eval) := by
  cases x with
  | none => exact .none
  | some x => exact .some (opv_rel ht x)

theorem run_bound1 {x x' : Value} {y y' n : Nat} {code : BoundsCode} (hx : VR ρ x x') (h : bound1 x y = some n) (hy : y ≤ y') : n ≤ y ∧ (Instr.sliceBound x' y' code).run P w = .ok n w := by
  unfold bound1 at h
  split at h
  · rename_i k m
    cases hb : Nat.ble m y with
    | false => rw [hb] at h; cases h
    | true =>
      rw [hb] at h; cases h
      have hle : n ≤ y := by simpa using hb
      have h2 : (0 : Int) ≤ Int.ofNat n ∧ Int.ofNat n ≤ (y' : Int) := ⟨by simp, by simp; omega⟩
      refine ⟨hle, ?_⟩
      simp only [Instr.sliceBound, Sem.run_bind, hx.int_inv, asIntOf, Sem.run_pure, Result.andThen_ok, h2, and_self, if_true]
      rfl
  · cases h

theorem run_bounds {isS : Bool} {len cap cap' i j m : Nat} {lo hi mx lo' hi' mx' : Option Value} (h : bounds len cap lo hi mx = some (i, j, m)) (hlo : OR ρ lo lo') (hhi : OR ρ hi hi') (hmx : OR ρ mx mx')
    (hc : cap ≤ cap') : i ≤ j ∧ j ≤ m ∧ m ≤ cap ∧ ∃ m', (mx = none → m = cap ∧ m' = cap') ∧ (mx ≠ none → m' = m) ∧ (Instr.sliceBounds isS len cap' lo' hi' mx').run P w = .ok (i, j, m') w := by
  unfold bounds at h
  split at h
  · cases h
  · rename_i m0 hm0
    split at h
    · cases h
    · split at h
      · cases h
      · rename_i j0 hj0
        split at h
        · cases h
        · rename_i i0 hi0
          cases hb : Nat.ble j0 m0 with
          | false => rw [hb] at h; cases h
          | true =>
            rw [hb] at h; cases h
            have hjm : j ≤ m := by simpa using hb
            cases hmx with
            | none =>
              simp only [boundOr] at hm0
              cases hm0
              have hlow : ∀ code, i ≤ j ∧ ∀ (F : Sem Nat), (lo' = none → F = pure 0) → (∀ v, lo' = some v → F = Instr.sliceBound v j code) → F.run P w = .ok i w := by
                intro code
                cases hlo with
                | none => simp only [boundOr] at hi0; cases hi0; exact ⟨Nat.zero_le _, fun F h1 _ => by rw [h1 rfl]; rfl⟩
                | some hv => simp only [boundOr] at hi0; obtain ⟨a, b⟩ := run_bound1 (P := P) (w := w) (code := code) hv hi0 (Nat.le_refl _); exact ⟨a, fun F _ h2 => by rw [h2 _ rfl]; exact b⟩
              refine ⟨(hlow .sliceB).1, hjm, Nat.le_refl _, cap', fun _ => ⟨rfl, rfl⟩, fun h => absurd rfl h, ?_⟩
              cases hhi with
              | none =>
                simp only [boundOr] at hj0; cases hj0
                cases hlo with
                | none => simp only [boundOr] at hi0; cases hi0; simp [Instr.sliceBounds]
                | some hv =>
                  simp only [boundOr] at hi0
                  obtain ⟨a, b⟩ := run_bound1 (P := P) (w := w) (code := .sliceB) hv hi0 (Nat.le_refl _)
                  simp [Instr.sliceBounds, b]
              | some hv2 =>
                simp only [boundOr] at hj0
                obtain ⟨a2, b2⟩ := run_bound1 (P := P) (w := w) (code := if isS then .sliceAcap else .sliceAlen) hv2 hj0 hc
                cases hlo with
                | none => simp only [boundOr] at hi0; cases hi0; simp [Instr.sliceBounds, b2]
                | some hv =>
                  simp only [boundOr] at hi0
                  obtain ⟨a, b⟩ := run_bound1 (P := P) (w := w) (code := .sliceB) hv hi0 (Nat.le_refl _)
                  simp [Instr.sliceBounds, b2, b]
            | some hv3 =>
              simp only [boundOr] at hm0
              obtain ⟨a3, b3⟩ := run_bound1 (P := P) (w := w) (code := if isS then .slice3Acap else .slice3Alen) hv3 hm0 hc
              cases hhi with
              | none => rename_i hne; exact absurd rfl (hne _ rfl)
              | some hv2 =>
                simp only [boundOr] at hj0
                obtain ⟨a2, b2⟩ := run_bound1 (P := P) (w := w) (code := .slice3B) hv2 hj0 (Nat.le_refl _)
                cases hlo with
                | none =>
                  simp only [boundOr] at hi0; cases hi0
                  exact ⟨Nat.zero_le _, hjm, a3, m, (fun h => by cases h), fun _ => rfl, by simp [Instr.sliceBounds, b2, b3]⟩
                | some hv =>
                  simp only [boundOr] at hi0
                  obtain ⟨a, b⟩ := run_bound1 (P := P) (w := w) (code := .slice3C) hv hi0 (Nat.le_refl _)
                  exact ⟨a, hjm, a3, m, (fun h => by cases h), fun _ => rfl, by simp [Instr.sliceBounds, b2, b3, b]⟩

theorem extract_bytes (b : ByteArray) (i j : Nat) : b.extract i j = ⟨((b.data.toList.drop i).take (j - i)).toArray⟩ := by
  apply ByteArray.ext
  apply Array.ext'
  simp [ByteArray.data_extract, List.extract_eq_take_drop]

theorem addIf (c : Bool) (b o n : Nat) : (if c = true then (⟨b, o, none⟩ : Addr) else (⟨b, o, none⟩ : Addr).add n) = ⟨b, if c = true then o else o + n, none⟩ := by
  cases c <;> simp [add_none]

theorem exactCap_true {b : Blk} {o cap : Nat} (h : exactCap b o cap = true) (ho : b.opn = true) : o + cap * b.es ≠ b.n := by
  unfold exactCap at h
  rw [ho] at h
  intro e
  simp [e] at h

theorem exactCap_false {b : Blk} {o cap : Nat} (h : exactCap b o cap = false) : b.opn = true ∧ o + cap * b.es = b.n := by
  unfold exactCap at h
  cases ho : b.opn with
  | false => rw [ho] at h; cases h
  | true => rw [ho] at h; exact ⟨rfl, by simpa using h⟩

theorem ok_slice {o : Oper} {t : TypeId} {x : Operand} {lo hi mx : Option Operand} {r : Res} (ho : o.op = .slice t x lo hi mx) (h : evalOp P ro tm o.op s = some r) : OpOk P B ro tm o s r := by
  intro ρ w ac hr ht hro hfr
  rw [ho] at h; simp only [evalOp] at h
  have hx := opv_rel ht x
  have h1 := or_ops (ac := ac) ht lo
  have h2 := or_ops (ac := ac) ht hi
  have h3 := or_ops (ac := ac) ht mx
  generalize lo.map (opv tm) = lo0 at h h1
  generalize hi.map (opv tm) = hi0 at h h2
  generalize mx.map (opv tm) = mx0 at h h3
  have hex : execOp ac.eval o = (do pure (.value (← Instr.sliceAt t (ac.eval x) (lo.map ac.eval) (hi.map ac.eval) (mx.map ac.eval)))) := by simp only [execOp, ho]
  generalize lo.map ac.eval = lo1 at h1 hex
  generalize hi.map ac.eval = hi1 at h2 hex
  generalize mx.map ac.eval = mx1 at h3 hex
  rw [hex]
  split at h
  · rename_i v hv
    cases h
    unfold sliceOf at hv
    split at hv
    · rename_i b hu ha
      rw [ha] at hx
      split at hv
      · cases hv
      · cases h3
        split at hv
        · rename_i i j m hb
          cases hv
          obtain ⟨b1, b2, b3, m', e1, _, e3⟩ := run_bounds (P := P) (w := w) (isS := false) hb h1 h2 (.none) (Nat.le_refl _)
          refine .same hr (v' := .string (b.extract i j)) ?_ (by rw [extract_bytes]; exact .string _)
          have hl : b.data.toList.length = b.size := by rw [Array.length_toList]; rfl
          rw [hl] at e3
          simp [Instr.sliceAt, Instr.slice, run_und hu, hx.string_inv, e3]
        · cases hv
    · rename_i e len cap hu ha
      rw [ha] at hx
      split at hv
      · rename_i i j m sz hb hsz
        cases hv
        obtain ⟨b1, b2, b3, m', e1, e2, e3⟩ := run_bounds (P := P) (w := w) (isS := true) hb h1 h2 h3 (Nat.le_refl _)
        have hm : m' = m := by
          cases mx0 with
          | none => obtain ⟨q1, q2⟩ := e1 rfl; omega
          | some _ => exact e2 (by simp)
        subst hm
        refine .same hr (v' := .slice none (j - i) (m' - i)) ?_ (.slcNil _ _)
        simp [Instr.sliceAt, Instr.slice, run_und hu, hx.slcNil_inv, e3, run_sizeOf' hsz]
      · cases hv
    · rename_i e a len cap hu ha
      rw [ha] at hx
      have hsp0 : a.spot = none := by
        cases e : a.spot with
        | none => rfl
        | some k => simp [e] at hv
      rw [hsp0] at hv
      simp only [Option.isSome_none, cond_false] at hv
      obtain ⟨hsp, q, o', cap', hq, he, hs⟩ := hx.slc_inv hsp0
      obtain ⟨ab, ao, asp⟩ := a
      simp only at hsp hq hs
      subst hsp
      split at hv
      · rename_i i j m size blk hb hsz hblk
        obtain ⟨hb1, hb2⟩ := liveBlk_some hblk
        obtain ⟨hC, hn, hop, hes⟩ := live_cells hr hb1 hb2 hq
        have hsum : q.r + q.n ≤ q.sz := by obtain ⟨cs, t, fr, _, _, p3, _⟩ := hC; exact p3
        cases hexa : exactCap blk ao cap with
        | true =>
          rw [hexa] at hv
          simp only [cond_true] at hv
          cases hv
          have hex2 : o' = q.r + ao ∧ cap' = cap := by
            rcases hs with h | ⟨p1, _, p3, _⟩ | ⟨p1, _, p3, p4, _⟩
            · exact h
            · exact absurd (by rw [← hes, ← hn]; exact p3) (exactCap_true hexa (hop.symm.trans p1))
            · exact absurd (by rw [← hes, ← hn, p3, p4]; omega) (exactCap_true hexa (hop.symm.trans p1))
          obtain ⟨hex3, hex4⟩ := hex2
          subst hex3; subst hex4
          obtain ⟨b1, b2, b3, m', e1, e2, e3⟩ := run_bounds (P := P) (w := w) (isS := true) hb h1 h2 h3 (Nat.le_refl _)
          have hm : m' = m := by
            cases mx0 with
            | none => obtain ⟨q1, q2⟩ := e1 rfl; omega
            | some _ => exact e2 (by simp)
          subst hm
          have hcond : (Nat.beq m' i = true) ↔ (m' = i) := by simp
          refine .same hr (v' := .slice (some (if m' = i then ⟨q.b, q.r + ao, none⟩ else ⟨q.b, q.r + ao + i * size, none⟩)) (j - i) (m' - i)) ?_ ?_
          · simp [Instr.sliceAt, Instr.slice, run_und hu, he, e3, run_sizeOf' hsz, add_none]
            split <;> rfl
          · by_cases hmi : m' = i
            · rw [if_pos hmi, hcond.2 hmi]
              exact .slc hq (.inl ⟨rfl, rfl⟩)
            · have : Nat.beq m' i = false := by
                cases e : Nat.beq m' i with
                | false => rfl
                | true => exact absurd (hcond.1 e) hmi
              rw [if_neg hmi, this, cond_false, addA_none]
              exact .slc hq (.inl ⟨by omega, rfl⟩)
        | false =>
          rw [hexa] at hv
          simp only [cond_false] at hv
          obtain ⟨hopn, hend⟩ := exactCap_false hexa
          cases hsz2 : Nat.beq blk.es size with
          | false => rw [hsz2] at hv; cases hv
          | true =>
            rw [hsz2] at hv
            simp only [cond_true] at hv
            have hsize : blk.es = size := Nat.eq_of_beq_eq_true hsz2
            have hqo : q.opn = true := hop.trans hopn
            have hle : cap ≤ cap' := by rcases hs with h | h | h <;> omega
            obtain ⟨b1, b2, b3, m', e1, e2, e3⟩ := run_bounds (P := P) (w := w) (isS := true) hb h1 h2 h3 hle
            have hval : (Instr.sliceAt t (ac.eval x) lo1 hi1 mx1).run P w = .ok (.slice (some (if m' = i then ⟨q.b, o', none⟩ else ⟨q.b, o' + i * size, none⟩)) (j - i) (m' - i)) w := by
              simp [Instr.sliceAt, Instr.slice, run_und hu, he, e3, run_sizeOf' hsz, add_none]
              split <;> rfl
            have hmulc : cap * q.es = (cap - i) * q.es + i * q.es := by
              rw [← Nat.add_mul]; congr 1; omega
            rw [hes, hsize] at hmulc
            rw [hsize] at hend
            have hqes : q.es = size := hes.trans hsize
            cases h3 with
            | none =>
              simp only at hv
              cases hv
              obtain ⟨rfl, rfl⟩ := e1 rfl
              refine .same hr (by rw [Sem.run_bind, hval]; rfl) ?_
              rw [addA_none]
              have hmul' : m' * size = (m' - i) * size + i * size := by
                rw [← Nat.add_mul]; congr 1; omega
              by_cases hmi : m' = i
              · rw [if_pos hmi]
                refine .slc hq (.inr (.inr ⟨hqo, by omega, by omega, ?_, ?_, ?_⟩))
                · have : m = i := by omega
                  subst this; rw [hn]; omega
                · rcases hs with h | h | h <;> omega
                · rcases hs with h | h | h
                  · have : m' - i = 0 := by omega
                    rw [this]; have := hn; have : ao ≤ blk.n := by omega
                    omega
                  · have : m' - i = 0 := by omega
                    rw [this]; have : ao ≤ blk.n := by omega
                    omega
                  · have : m' - i = 0 := by omega
                    rw [this]; omega
              · rw [if_neg hmi]
                rcases hs with h | h | h
                · exact .slc hq (.inl ⟨by omega, by omega⟩)
                · refine .slc hq (.inr (.inl ⟨hqo, by omega, ?_, by omega, ?_⟩))
                  · rw [hqes, hn]; omega
                  · rw [hqes]; have := h.2.2.2.2; rw [hqes] at this; omega
                · have hi0 : i = 0 := by omega
                  subst hi0
                  refine .slc hq (.inr (.inr ⟨hqo, by omega, by omega, by omega, by omega, ?_⟩))
                  have := h.2.2.2.2.2
                  simpa using this
            | some hv3 =>
              simp only at hv
              cases hv
              have hm' := e2 (by simp)
              subst hm'
              refine .same hr (by rw [Sem.run_bind, hval]; rfl) ?_
              have hcond : (Nat.beq m' i = true) ↔ (m' = i) := by simp
              rcases hs with h | h | h
              · by_cases hmi : m' = i
                · rw [if_pos hmi, hcond.2 hmi]
                  exact .slc hq (.inl ⟨h.1, rfl⟩)
                · have : Nat.beq m' i = false := by
                    cases e : Nat.beq m' i with
                    | false => rfl
                    | true => exact absurd (hcond.1 e) hmi
                  rw [if_neg hmi, this, cond_false, addA_none]
                  exact .slc hq (.inl ⟨by omega, rfl⟩)
              · by_cases hmi : m' = i
                · rw [if_pos hmi, hcond.2 hmi]
                  exact .slc hq (.inl ⟨h.2.1, rfl⟩)
                · have : Nat.beq m' i = false := by
                    cases e : Nat.beq m' i with
                    | false => rfl
                    | true => exact absurd (hcond.1 e) hmi
                  rw [if_neg hmi, this, cond_false, addA_none]
                  exact .slc hq (.inl ⟨by omega, rfl⟩)
              · have hmi : m' = i := by omega
                rw [if_pos hmi, hcond.2 hmi]
                refine .slc hq (.inr (.inr ⟨hqo, by omega, by omega, h.2.2.2.1, h.2.2.2.2.1, ?_⟩))
                have h5 := h.2.2.2.2.2
                have : (m' - i) * q.es = 0 := by rw [show m' - i = 0 by omega]; simp
                omega
      · cases hv
    · rename_i arr a hu ha
      rw [ha] at hx
      obtain ⟨hsp, q, hq, he⟩ := hx.ptr_inv
      obtain ⟨ab, ao, asp⟩ := a
      simp only at hsp hq he
      subst hsp
      split at hv
      · rename_i n elem hu2
        split at hv
        · rename_i i j m size hb hsz
          cases hv
          obtain ⟨b1, b2, b3, m', e1, e2, e3⟩ := run_bounds (P := P) (w := w) (isS := false) hb h1 h2 h3 (Nat.le_refl _)
          have hm : m' = m := by
            cases mx0 with
            | none => obtain ⟨q1, q2⟩ := e1 rfl; omega
            | some _ => exact e2 (by simp)
          subst hm
          have hcond : (Nat.beq m' i = true) ↔ (m' = i) := by simp
          refine .same hr (v' := .slice (some (if m' = i then ⟨q.b, q.r + ao, none⟩ else ⟨q.b, q.r + ao + i * size, none⟩)) (j - i) (m' - i)) ?_ ?_
          · simp [Instr.sliceAt, Instr.slice, run_und hu, run_und hu2, he, asAddr, e3, run_sizeOf' hsz, add_none]
          · by_cases hmi : m' = i
            · rw [if_pos hmi, hcond.2 hmi]
              exact .slc hq (.inl ⟨rfl, rfl⟩)
            · have : Nat.beq m' i = false := by
                cases e : Nat.beq m' i with
                | false => rfl
                | true => exact absurd (hcond.1 e) hmi
              rw [if_neg hmi, this, cond_false, addA_none]
              exact .slc hq (.inl ⟨by omega, rfl⟩)
        · cases hv
      · cases hv
    · rename_i n elem a hu ha
      rw [ha] at hx
      obtain ⟨hsp, q, hq, he⟩ := hx.ptr_inv
      obtain ⟨ab, ao, asp⟩ := a
      simp only at hsp hq he
      subst hsp
      split at hv
      · rename_i i j m size hb hsz
        cases hv
        obtain ⟨b1, b2, b3, m', e1, e2, e3⟩ := run_bounds (P := P) (w := w) (isS := false) hb h1 h2 h3 (Nat.le_refl _)
        have hm : m' = m := by
          cases mx0 with
          | none => obtain ⟨q1, q2⟩ := e1 rfl; omega
          | some _ => exact e2 (by simp)
        subst hm
        have hcond : (Nat.beq m' i = true) ↔ (m' = i) := by simp
        refine .same hr (v' := .slice (some (if m' = i then ⟨q.b, q.r + ao, none⟩ else ⟨q.b, q.r + ao + i * size, none⟩)) (j - i) (m' - i)) ?_ ?_
        · simp [Instr.sliceAt, run_und hu, he, Instr.sureAddr, e3, run_sizeOf' hsz, add_none]
        · by_cases hmi : m' = i
          · rw [if_pos hmi, hcond.2 hmi]
            exact .slc hq (.inl ⟨rfl, rfl⟩)
          · have : Nat.beq m' i = false := by
              cases e : Nat.beq m' i with
              | false => rfl
              | true => exact absurd (hcond.1 e) hmi
            rw [if_neg hmi, this, cond_false, addA_none]
            exact .slc hq (.inl ⟨by omega, rfl⟩)
      · cases hv
    · cases hv
  · cases h

end
end Go.Ab

namespace Go.Ab

section
variable {P : Program} {B ro : Nat} {ρ : Ren} {s : St} {w : World} {tm : T Value} {ac : Act}

/-! ### Conversions -/

theorem bytesOfCells_some : ∀ (l : List Value) (b : List UInt8), bytesOfCells l = some b → ∃ ns : List Int, l = ns.map (Value.int .u8) ∧ b = ns.map fun n => UInt8.ofNat n.toNat
  | [], b, h => by simp [bytesOfCells] at h; subst h; exact ⟨[], rfl, rfl⟩
  | v :: l, b, h => by
    unfold bytesOfCells at h
    split at h
    · cases ‹v :: l = []›
    · rename_i n l' heq
      cases heq
      split at h
      · rename_i r hr
        cases h
        obtain ⟨ns, h1, h2⟩ := bytesOfCells_some _ _ hr
        exact ⟨Int.ofNat n :: ns, by rw [h1]; rfl, by rw [h2]; rfl⟩
      · cases h
    · cases h

theorem vrs_ints {ns : List Int} {l : List Value} (h : VRs ρ (ns.map (Value.int .u8)) l) : l = ns.map (Value.int .u8) := by
  induction ns generalizing l with
  | nil => exact L2.nil_left h
  | cons n ns ih =>
    obtain ⟨b, m', rfl, h1, h2⟩ := L2.cons_left h
    rw [h1.int_inv, ih h2]; rfl

theorem vrs_ints_refl (ns : List Int) : VRs ρ (ns.map (Value.int .u8)) (ns.map (Value.int .u8)) := L2.map_same fun _ _ => .int _ _

theorem ok_convert {o : Oper} {src dst : TypeId} {x : Operand} {r : Res} (ho : o.op = .convert src dst x) (h : evalOp P ro tm o.op s = some r) : OpOk P B ro tm o s r := by
  intro ρ w ac hr ht hro hfr
  rw [ho] at h; simp only [evalOp] at h
  have hx := opv_rel ht x
  have hex : (execOp ac.eval o).run P w = ((convert src dst (ac.eval x)).run P w).andThen fun v w' => .ok (.value v) w' := by simp [execOp, ho]
  rw [hex]
  unfold convOf at h
  split at h
  · rename_i u k k' n h1 h2 ha
    cases h
    rw [ha] at hx
    refine .same hr (v' := .int k (k.wrap n)) ?_ (by rw [wrapK_eq]; exact .int _ _)
    rw [hx.int_inv]
    simp [convert, run_und h1, run_und h2, Conv.intToInt]
  · rename_i u k' n h1 h2 ha
    cases h
    rw [ha] at hx
    refine .same hr (v' := .string (Utf8.encode n)) ?_ (.string _)
    rw [hx.int_inv]
    simp [convert, run_und h1, run_und h2, Conv.intToString]
  · rename_i u b h1 h2 ha
    cases h
    rw [ha] at hx
    refine .same hr (v' := .string b) ?_ (.string _)
    rw [hx.string_inv]
    simp [convert, run_und h1, run_und h2]
  · rename_i u e b h1 h2 ha
    rw [ha] at hx
    split at h
    · rename_i h3
      simp only [T.setsK_eq, newObjK_eq] at h
      cases h
      have hf : ρ s.next = none := hfr _ (Nat.le_refl _) (by simp [Res.next])
      have hl : b.data.toList.length = b.size := by rw [Array.length_toList]; rfl
      have hrun := Lib.run_convert_string_bytes (P := P) w src dst e b h1 h2 h3
      have hcap : b.size ≤ grownCap w b.size 0 e := by simp only [grownCap, Question.cut]; omega
      have hcs : (Lib.bytesCells w e b).toList = (b.data.toList.map fun c => Value.int .u8 (.ofNat c.toNat)) ++ List.replicate (grownCap w b.size 0 e - b.size) (.int .u8 0) := by
        simp [Lib.bytesCells]
      have hsz : (Lib.bytesCells w e b).size = grownCap w b.size 0 e := by
        rw [← Array.length_toList, hcs]; simp; omega
      rw [hx.string_inv, hrun]
      refine ⟨_, _, _, .inl rfl, Step.newCells hr hro hf (b := { cells := T.sets (b.data.toList.map fun c => Value.int .u8 (.ofNat c.toNat)) 0 .leaf, n := (b.data.toList.map fun c => Value.int .u8 (.ofNat c.toNat)).length, z := [], elem := e, opn := true, es := 1, str := true, dead := false })
        (cs := Lib.bytesCells w e b) (t := e) (fr := ((Lib.bytesCells w e b).size, (Lib.bytesCells w e b).size + 1)) ?_ rfl rfl rfl (.inr (Nat.le_refl _)) (fun h => by cases h) ?_ (fun h => by cases h) ?_, ?_⟩
      · apply Array.ext_getElem?
        intro k
        rw [Array.getElem?_push]
        by_cases hk : k = w.heap.size
        · rw [if_pos hk, hk]; exact Lib.bytesWorld_at_new w e b
        · rw [if_neg hk]
          by_cases hk2 : k < w.heap.size
          · exact Lib.bytesWorld_at_old w e b k hk2
          · rw [Array.getElem?_eq_none (by rw [Lib.bytesWorld_size]; omega), Array.getElem?_eq_none (by omega)]
      · simp only [List.length_map]; rw [hsz, hl]; exact hcap
      · intro j v hj
        have hj' := cellAt_row hj
        refine ⟨v, ?_, ?_⟩
        · rw [← Array.getElem?_toList, hcs, List.getElem?_append_left (List.getElem?_eq_some_iff.1 hj').1]; exact hj'
        · obtain ⟨c, _, rfl⟩ := List.mem_map.1 (List.mem_of_getElem? hj')
          exact .int _ _
      · rw [show b.size = (b.data.toList.map fun c => Value.int .u8 (.ofNat c.toNat)).length by simp [hl]]
        refine .slc (Ren.upd_same _ _ _) (.inr (.inl ⟨rfl, by simp, by simp, ?_, ?_⟩))
        · simp only [List.length_map]; rw [hl]; simpa [hl] using hcap
        · simp only [List.length_map, Nat.mul_one, Nat.zero_add, hl]; rw [hsz]; exact Nat.le_refl _
    · cases h
  · rename_i e base len cap h1 h2 ha
    rw [ha] at hx
    split at h
    · rename_i h3
      split at h
      · cases h
        refine .same hr (v' := .string .empty) ?_ (.string _)
        rw [hx.slcNil_inv, run_convert_bytes_string w src dst e none len cap h1 h3 h2]
        simp [Conv.bytesToString]
      · rename_i a
        have hsp0 : a.spot = none := by
          cases e : a.spot with
          | none => rfl
          | some k => rw [e] at h; cases h
        obtain ⟨hsp, q, o', cap', hq, he, hs⟩ := hx.slc_inv hsp0
        rw [hsp] at h
        simp only at h
        split at h
        · rename_i l hl
          split at h
          · rename_i bs hbs
            cases h
            obtain ⟨ns, n1, n2⟩ := bytesOfCells_some _ _ hbs
            obtain ⟨l', l1, l2, l3⟩ := ldCells_sim hr hq hl
            rw [n1] at l2
            have l4 := vrs_ints l2
            have hload : (loadCells ⟨q.b, o', none⟩ len).run P w = .ok (ns.map (Value.int .u8)).toArray w := by
              rcases hs with h | h | h
              · rw [h.1, ← l4]; exact run_loadCells_n _ _ _ l' l1 l3
              · rw [h.2.1, ← l4]; exact run_loadCells_n _ _ _ l' l1 l3
              · have h0 : len = 0 := h.2.1
                have : l' = [] := by rw [← List.length_eq_zero_iff, l1, h0]
                rw [← l4, this, h0]; simp [loadCells, loadCellsFrom]
            refine .same hr (v' := .string ⟨bs.toArray⟩) ?_ (.string _)
            rw [he, run_convert_bytes_string w src dst e _ len cap' h1 h3 h2, run_bytesToString w _ len cap' ns hload, foldl_push_bytes]
            simp only [Result.andThen_ok, n2]
            congr 3
            apply ByteArray.ext
            simp
          · cases h
        · cases h
    · cases h
  · rename_i e0 e a len cap h1 h2 ha
    rw [ha] at hx
    have hsp0 : a.spot = none := by
      cases e : a.spot with
      | none => rfl
      | some k => simp [e] at h
    rw [hsp0] at h
    simp only [Option.isSome_none, cond_false] at h
    cases hb : Nat.beq src dst with
    | false => rw [hb] at h; cases h
    | true =>
      rw [hb] at h
      simp only [cond_true] at h
      have hsd : src = dst := Nat.eq_of_beq_eq_true hb
      split at h
      · rename_i h3
        split at h
        · rename_i blk hblk
          obtain ⟨hb1, hb2⟩ := liveBlk_some hblk
          cases hro2 : Nat.ble ro a.block with
          | false => rw [hro2] at h; cases h
          | true =>
            rw [hro2] at h
            simp only [cond_true, setObjK_eq] at h
            cases h
            have hro2 : ro ≤ a.block := by simpa using hro2
            obtain ⟨hsp, q, o', cap', hq, he, hs⟩ := hx.slc_inv hsp0
            obtain ⟨hC, hn, hop, hes⟩ := live_cells hr hb1 hb2 hq
            obtain ⟨cs, t, fr, p1, p2, p3, p4, p5, p6, p7⟩ := hC
            have hsh : w.shape? q.b = some (t, cs.size) := by simp [World.shape?, p1]
            have hrun : (convert src dst (.slice (some ⟨q.b, o', none⟩) len cap')).run P w = .ok (.slice (some ⟨q.b, o', none⟩) len cap') (w.freeze ⟨q.b, cs.size, none⟩ 1) := by
              subst hsd
              rw [h1] at h2; cases h2
              simp [convert, run_und h1, run_und h3, markStringish, hsh]
            refine ⟨ρ, w.freeze ⟨q.b, cs.size, none⟩ 1, .slice (some ⟨q.b, o', none⟩) len cap', .inl (by rw [he, hrun]; rfl), ?_, by rw [he] at hx; exact hx⟩
            refine Step.turn hr hro2 hq hb1 (by simp [AObj.alive, hb2]) (by simp [World.freeze]) (fun k hk => ?_) rfl rfl rfl ⟨hn, hop, hes, fun _ => ?_⟩
            · simp only [World.freeze, Nat.one_ne_zero, if_false, Array.getElem?_modify]
              rw [if_neg (fun e => hk e.symm)]
            · refine ⟨cs, t, (if fr.1 == fr.2 then (cs.size, cs.size + 1) else (min fr.1 cs.size, max fr.2 (cs.size + 1))), ?_, p2, p3, fun _ => .inr ?_, (fun e => by cases e), p6, p7⟩
              · simp only [World.freeze, Nat.one_ne_zero, if_false, Array.getElem?_modify, if_true, p1, Option.map_some]
              · split
                · exact Nat.le_refl _
                · rename_i hne
                  have : cs.size ≤ fr.1 := (p4 (hr.own _ q hq hro2).2).resolve_left (by simpa using hne)
                  simp only
                  omega
        · cases h
      · cases h
  · cases h

/-! ### Slices that are made -/

theorem i64max : IntKind.i64.max = 9223372036854775807 := rfl

set_option maxRecDepth 20000 in
theorem ok_makeSlice {o : Oper} {t : TypeId} {x y : Operand} {r : Res} (ho : o.op = .makeSlice t x y) (h : evalOp P ro tm o.op s = some r) : OpOk P B ro tm o s r := by
  intro ρ w ac hr ht hro hfr
  rw [ho] at h; simp only [evalOp] at h
  have hx := opv_rel ht x
  have hy := opv_rel ht y
  split at h
  · rename_i elem k l k' c hu hl hc
    rw [hl] at hx; rw [hc] at hy
    split at h
    · rename_i n z i hn hz hi
      cases hb : (Nat.ble l c && Nat.ble c 9223372036854775807 && Nat.ble (i.bytes * c) 281474976710656 && Nat.beq z.length n) with
      | false => rw [hb] at h; cases h
      | true =>
        rw [hb] at h
        simp only [cond_true, newObjK_eq] at h
        cases h
        simp only [Bool.and_eq_true, Nat.ble_eq] at hb
        obtain ⟨⟨⟨b1, b2⟩, b3⟩, b4⟩ := hb
        have b4 : z.length = n := Nat.eq_of_beq_eq_true b4
        have hf : ρ s.next = none := hfr _ (Nat.le_refl _) (by simp [Res.next])
        obtain ⟨zv, z1, z2⟩ := zeroC_run hz
        have hzl := (z2 ρ).length
        have hbc : (i.bytes : Int) * (c : Int) ≤ 281474976710656 := by
          have h2 : ((i.bytes * c : Nat) : Int) ≤ 281474976710656 := by omega
          rwa [Int.natCast_mul] at h2
        obtain ⟨i2, zv0, hi2, hz0, _, hcv⟩ := zeroC_some hz
        rw [hi] at hi2; cases hi2
        have hzv : zv0 = zv := by
          have := z1 w
          simp [zeroValue, run_typeInfo' hi, hz0] at this
          exact this
        subst hzv
        have hsize : i.size = n := by obtain ⟨i3, h3, h4⟩ := szOf_some hn; rw [hi] at h3; cases h3; exact h4
        have hmk := run_make (P := P) w t elem i zv0 hu hi hz0 k k' (l : Int) (c : Int) (by omega) (by omega) hbc (by omega)
        simp only [Int.toNat_natCast, hsize] at hmk
        have hcells : (execOp ac.eval o).run P w = .ok (.value (.slice (some ⟨w.heap.size, 0, none⟩) l c)) (w.alloc (.cells (madeCells zv0.cells (c * n)) elem)) := by
          simp only [execOp, ho, Sem.run_bind, hx.int_inv, hy.int_inv]
          have e1 : Int.ofNat l = (l : Int) := rfl
          have e2 : Int.ofNat c = (c : Int) := rfl
          rw [e1, e2, hmk]; rfl
        rw [hcells]
        refine ⟨_, _, _, .inl rfl, Step.newCells hr hro hf (b := { cells := .leaf, n := c * n, z := z, elem, opn := false, es := 0, str := false, dead := false }) (t := elem) (fr := (0, 0)) rfl rfl rfl rfl (.inl rfl) (fun _ => rfl) (by rw [size_madeCells]; exact Nat.le_refl _) (fun _ => size_madeCells _ _) ?_, .slc (Ren.upd_same _ _ _) (.inl ⟨rfl, rfl⟩)⟩
        intro j v hj
        simp only [cellAt, T.get_leaf] at hj
        cases hlt : Nat.blt j (c * n) with
        | false => rw [hlt] at hj; cases hj
        | true =>
          rw [hlt] at hj
          simp only [cond_true, nth_eq] at hj
          have hlt : j < c * n := by simpa [Nat.blt_eq] using hlt
          obtain ⟨v', v1, v2⟩ := (z2 ρ).get hj
          refine ⟨v', ?_, v2⟩
          have hsz : zv0.cells.size = z.length := by rw [hzl]; simp
          simp only [madeCells]
          rw [Array.getElem?_map, Array.getElem?_range, if_pos hlt]
          simp only [Option.map_some]
          rw [hsz]
          rw [Array.getElem?_toList] at v1
          rw [getElem!_def, v1]
    · cases h
  · cases h

end
end Go.Ab

namespace Go.Ab

section
variable {P : Program} {B ro : Nat} {ρ : Ren} {s : St} {w : World} {tm : T Value} {ac : Act}

theorem fold_set : ∀ (vs : List Value) (k off : Nat) (cs : Array Value), off + k + vs.length ≤ cs.size →
    ((vs.zipIdx k).foldl (fun cs (x : Value × Nat) => cs.setIfInBounds (off + x.2) x.1) cs).size = cs.size ∧
    ∀ j, ((vs.zipIdx k).foldl (fun cs (x : Value × Nat) => cs.setIfInBounds (off + x.2) x.1) cs)[j]? = if off + k ≤ j ∧ j < off + k + vs.length then vs[j - (off + k)]? else cs[j]?
  | [], k, off, cs, _ => ⟨rfl, fun j => by rw [if_neg (by simp)]; rfl⟩
  | v :: vs, k, off, cs, h => by
    simp only [List.length_cons] at h
    simp only [List.zipIdx_cons, List.foldl_cons]
    obtain ⟨h1, h2⟩ := fold_set vs (k + 1) off (cs.setIfInBounds (off + k) v) (by simp; omega)
    refine ⟨by rw [h1]; simp, fun j => ?_⟩
    rw [h2, Array.getElem?_setIfInBounds]
    by_cases hj : off + k = j
    · subst hj
      rw [if_neg (by omega), if_pos rfl, if_pos (by omega), if_pos (by simp)]; simp
    · rw [if_neg hj]
      by_cases h3 : off + (k + 1) ≤ j ∧ j < off + (k + 1) + vs.length
      · rw [if_pos h3, if_pos (by simp; omega)]
        obtain ⟨d, rfl⟩ : ∃ d, j = off + (k + 1) + d := ⟨j - (off + (k + 1)), by omega⟩
        have e1 : off + (k + 1) + d - (off + (k + 1)) = d := by omega
        have e2 : off + (k + 1) + d - (off + k) = d + 1 := by omega
        rw [e1, e2]; simp
      · rw [if_neg h3, if_neg (by simp; omega)]

theorem fold_set_arr (vs : Array Value) (off : Nat) (cs : Array Value) (h : off + vs.size ≤ cs.size) :
    (vs.zipIdx.foldl (fun cs (x : Value × Nat) => cs.setIfInBounds (off + x.2) x.1) cs).toList = cs.toList.take off ++ (vs.toList ++ cs.toList.drop (off + vs.size)) := by
  have e0 : vs.zipIdx.foldl (fun cs (x : Value × Nat) => cs.setIfInBounds (off + x.2) x.1) cs = (vs.toList.zipIdx 0).foldl (fun cs (x : Value × Nat) => cs.setIfInBounds (off + x.2) x.1) cs := by
    rw [← Array.foldl_toList]; simp
  rw [e0]
  obtain ⟨h1, h2⟩ := fold_set vs.toList 0 off cs (by simpa using h)
  apply List.ext_getElem?
  intro j
  rw [Array.getElem?_toList, h2]
  simp only [Nat.add_zero, Array.length_toList]
  rw [List.getElem?_append]
  have hlt : (cs.toList.take off).length = off := by simp; omega
  rw [hlt]
  by_cases hj : j < off
  · rw [if_neg (by omega), if_pos hj, List.getElem?_take, if_pos hj]; simp
  · rw [if_neg hj, List.getElem?_append]
    simp only [Array.length_toList]
    by_cases h3 : off ≤ j ∧ j < off + vs.size
    · rw [if_pos h3, if_pos (by omega)]
    · rw [if_neg h3, if_neg (by omega), List.getElem?_drop]
      simp only [Array.getElem?_toList]
      congr 1; omega

def PartR (ρ : Ren) (x y : Nat × Value) : Prop := x.1 = y.1 ∧ VR ρ x.2 y.2

theorem fill_sim {place place' : Nat → Option (Nat × Nat)} (hp : ∀ i x, place i = some x → place' i = some x) :
    ∀ (parts : List (Nat × Value)) (cells : List Value) (l : List Value) (parts' : List (Nat × Value)) (cells' : Array Value), fillL place cells parts = some l → VRs ρ cells cells'.toList → L2 (PartR ρ) parts parts' →
      ∃ l', Instr.fill place' cells' parts' = some l' ∧ VRs ρ l l'.toList
  | [], cells, l, parts', cells', h, hc, hpr => by
    rw [L2.nil_left hpr]
    simp only [fillL] at h
    cases h
    exact ⟨cells', rfl, hc⟩
  | (i, v) :: rest, cells, l, parts', cells', h, hc, hpr => by
    obtain ⟨y, rest', rfl, ⟨hy1, hy2⟩, hrest⟩ := L2.cons_left hpr
    obtain ⟨i', v'⟩ := y
    simp only at hy1 hy2
    subst hy1
    simp only [fillL] at h
    split at h
    · cases h
    · rename_i off size hpl
      split at h
      · cases h
      · rename_i vs hvs
        cases hb : (Nat.beq vs.length size && Nat.ble (off + size) cells.length) with
        | false => rw [hb] at h; cases h
        | true =>
          rw [hb] at h
          simp only [cond_true] at h
          simp only [Bool.and_eq_true, Nat.ble_eq] at hb
          have hb1 : vs.length = size := Nat.eq_of_beq_eq_true hb.1
          have hvr := cellsV_rel hy2 hvs
          have hvl : v'.cells.size = size := by rw [← hb1, hvr.length]; simp
          have hcl : cells.length = cells'.size := by rw [hc.length]; simp
          have hcells : VRs ρ (cells.take off ++ (vs ++ cells.drop (off + size))) (v'.cells.zipIdx.foldl (fun cs (x : Value × Nat) => cs.setIfInBounds (off + x.2) x.1) cells').toList := by
            rw [fold_set_arr _ _ _ (by omega), hvl]
            exact (hc.take off).append (hvr.append (hc.drop _))
          obtain ⟨l', e1, e2⟩ := fill_sim hp rest _ l rest' _ h hcells hrest
          refine ⟨l', ?_, e2⟩
          have c1 : (decide (v'.cells.size ≠ size) || decide (off + v'.cells.size > cells'.size)) = false := by
            rw [decide_eq_false (by simpa using hvl), decide_eq_false (by omega)]; rfl
          simp only [Instr.fill, hp i _ hpl]
          rw [if_neg (by rw [c1]; simp)]
          exact e1

theorem run_mapM {α β : Type} (f : α → Sem β) (g : α → β) (w : World) : ∀ (l : List α), (∀ a ∈ l, (f a).run P w = .ok (g a) w) → (l.mapM f).run P w = .ok (l.map g) w
  | [], _ => by simp
  | a :: l, h => by
    simp only [List.mapM_cons, Sem.run_bind, h a (by simp), Result.andThen_ok, run_mapM f g w l (fun b hb => h b (by simp [hb])), Sem.run_pure, List.map_cons]

theorem structPlaces_some : ∀ (fs : List Field) (pl : List (Nat × Nat)), structPlaces P fs = some pl → (fs.mapM fun f => (do pure (f.offset, ← sizeOf f.type) : Sem (Nat × Nat))).run P w = .ok pl w
  | [], pl, h => by simp [structPlaces] at h; subst h; simp
  | f :: fs, pl, h => by
    simp only [structPlaces] at h
    split at h
    · rename_i n r hn hr
      cases h
      simp only [List.mapM_cons, Sem.run_bind, run_sizeOf' hn, Result.andThen_ok, Sem.run_pure, structPlaces_some fs r hr]
    · cases h

theorem parts_rel (ht : TmR ρ tm ac.tmps) (l : List (Nat × Operand)) : L2 (PartR ρ) (l.map fun (i, x) => (i, opv tm x)) (l.map fun (i, x) => (i, ac.eval x)) :=
  L2.map_same fun x _ => ⟨rfl, opv_rel ht x.2⟩

theorem ok_build {o : Oper} {t : TypeId} {parts : Array (Nat × Operand)} {r : Res} (ho : o.op = .build t parts) (h : evalOp P ro tm o.op s = some r) : OpOk P B ro tm o s r := by
  intro ρ w ac hr ht hro hfr
  rw [ho] at h; simp only [evalOp] at h
  have hp := parts_rel (ac := ac) ht parts.toList
  have hpt : (parts.map fun (i, x) => (i, ac.eval x)).toList = parts.toList.map fun (i, x) => (i, ac.eval x) := by simp
  have hex : (execOp ac.eval o).run P w = ((Instr.build t (parts.map fun (i, x) => (i, ac.eval x))).run P w).andThen fun v w' => .ok (.value v) w' := by simp [execOp, ho]
  rw [hex]
  split at h
  · rename_i z fs hz hu
    obtain ⟨zv, z1, z2⟩ := zeroC_run hz
    split at h
    · rename_i pl hpl
      split at h
      · rename_i l hl
        cases h
        obtain ⟨l', e1, e2⟩ := fill_sim (place' := (pl.toArray[·]?)) (fun i x h => by rw [nth_eq] at h; simpa using h) _ _ _ _ _ hl (z2 ρ) hp
        refine .same hr (v' := .agg l') ?_ (VR.agg_of e2)
        have hm : (fs.mapM fun f => (do pure (f.offset, ← sizeOf f.type) : Sem (Nat × Nat))).run P w = .ok pl.toArray w := by
          have : fs = fs.toList.toArray := by simp
          rw [this, List.mapM_toArray, Sem.run_map, structPlaces_some fs.toList pl hpl]; rfl
        simp only [Instr.build, Sem.run_bind, z1, Result.andThen_ok, run_und hu, hm, hpt, e1, Sem.run_pure]
      · cases h
    · cases h
  · rename_i z len elem hz hu
    obtain ⟨zv, z1, z2⟩ := zeroC_run hz
    split at h
    · rename_i n hn
      split at h
      · rename_i l hl
        cases h
        obtain ⟨l', e1, e2⟩ := fill_sim (place' := fun i => some (i * n, n)) (fun i x h => h) _ _ _ _ _ hl (z2 ρ) hp
        refine .same hr (v' := .agg l') ?_ (VR.agg_of e2)
        simp only [Instr.build, Sem.run_bind, z1, Result.andThen_ok, run_und hu, run_sizeOf' hn, hpt, e1, Sem.run_pure]
      · cases h
    · cases h
  · cases h

theorem repeatL_get (z : List Value) : ∀ (n j : Nat), j < n * z.length → (repeatL z n)[j]? = z[j % z.length]?
  | 0, j, h => by omega
  | n + 1, j, h => by
    simp only [repeatL]
    rw [List.getElem?_append]
    by_cases hj : j < z.length
    · rw [if_pos hj, Nat.mod_eq_of_lt hj]
    · rw [if_neg hj, repeatL_get z n (j - z.length) (by rw [Nat.add_mul] at h; omega)]
      congr 1
      rw [← Nat.mod_eq_sub_mod (by omega)]

theorem repeatL_length (z : List Value) : ∀ (n : Nat), (repeatL z n).length = n * z.length
  | 0 => by simp [repeatL]
  | n + 1 => by simp only [repeatL, List.length_append, repeatL_length z n, Nat.add_mul]; omega

/-- Zeros, n times over. -/
theorem repeat_rel {z : List Value} {zs : Array Value} (hz : VRs ρ z zs.toList) (n m : Nat) (hm : m = n * z.length) : VRs ρ (repeatL z n) (madeCells zs m).toList := by
  have hl : zs.size = z.length := by rw [hz.length]; simp
  refine L2.of_get (by rw [repeatL_length]; simp [size_madeCells, hm]) fun j a b ha hb => ?_
  have hj : j < n * z.length := by
    have := (List.getElem?_eq_some_iff.1 ha).1
    rwa [repeatL_length] at this
  rw [repeatL_get z n j hj] at ha
  obtain ⟨v', v1, v2⟩ := hz.get ha
  have : b = v' := by
    rw [Array.getElem?_toList] at hb v1
    simp only [madeCells] at hb
    rw [Array.getElem?_map, Array.getElem?_range, if_pos (by omega)] at hb
    simp only [Option.map_some] at hb
    rw [hl, getElem!_def, v1] at hb
    exact (Option.some.inj hb).symm
  rw [this]; exact v2

theorem ok_buildSlice {o : Oper} {t : TypeId} {len : Nat} {parts : Array (Nat × Operand)} {r : Res} (ho : o.op = .buildSlice t len parts) (h : evalOp P ro tm o.op s = some r) : OpOk P B ro tm o s r := by
  intro ρ w ac hr ht hro hfr
  rw [ho] at h; simp only [evalOp] at h
  have hp := parts_rel (ac := ac) ht parts.toList
  have hpt : (parts.map fun (i, x) => (i, ac.eval x)).toList = parts.toList.map fun (i, x) => (i, ac.eval x) := by simp
  have hex : (execOp ac.eval o).run P w = ((Instr.buildSlice t len (parts.map fun (i, x) => (i, ac.eval x))).run P w).andThen fun v w' => .ok (.value v) w' := by simp [execOp, ho]
  rw [hex]
  split at h
  · rename_i elem hu
    split at h
    · rename_i n z hn hz
      obtain ⟨zv, z1, z2⟩ := zeroC_run hz
      cases hb : (Nat.ble (len * n) 16777216 && Nat.beq z.length n) with
      | false => rw [hb] at h; cases h
      | true =>
        rw [hb] at h
        simp only [cond_true] at h
        simp only [Bool.and_eq_true, Nat.ble_eq] at hb
        have hzn : z.length = n := Nat.eq_of_beq_eq_true hb.2
        split at h
        · rename_i l hl
          rw [newRow_eq] at h
          cases h
          have hf : ρ s.next = none := hfr _ (Nat.le_refl _) (by simp [Res.next])
          have hzz : VRs ρ (repeatL z len) (madeCells (if len * n = 0 then #[] else zv.cells) (len * n)).toList := by
            by_cases h0 : len * n = 0
            · have e1 : repeatL z len = [] := by
                rw [← List.length_eq_zero_iff, repeatL_length, hzn, h0]
              rw [e1, h0]; simp [madeCells]; exact .nil
            · rw [if_neg h0]
              exact repeat_rel (z2 ρ) len _ (by rw [hzn])
          obtain ⟨l', e1, e2⟩ := fill_sim (place' := fun i => some (i * n, n)) (fun i x h => h) _ _ _ _ _ hl hzz hp
          have hrun : (Instr.buildSlice t len (parts.map fun (i, x) => (i, ac.eval x))).run P w = .ok (.slice (some ⟨w.heap.size, 0, none⟩) len len) (w.alloc (.cells l' elem)) := by
            have hlt : ¬ (len * n > 2 ^ 24) := by have : 2 ^ 24 = 16777216 := rfl; omega
            have e1' : Instr.fill (fun i => some (i * n, n)) ((Array.range (len * n)).map ((if len * n = 0 then #[] else zv.cells)[· % (if len * n = 0 then #[] else zv.cells).size]!)) ((parts.map fun (i, x) => (i, ac.eval x)).toList) = some l' := by rw [hpt]; exact e1
            by_cases h0 : len * n = 0
            · simp only [h0, if_true] at e1'
              simp [Instr.buildSlice, run_und hu, run_sizeOf' hn, h0, Go.newRow]
              simp at e1'
              rw [e1']
              simp
            · simp only [h0, if_false] at e1'
              simp [Instr.buildSlice, run_und hu, run_sizeOf' hn, h0, Go.newRow, hlt, z1]
              simp at e1'
              rw [e1']
              simp
          rw [hrun]
          refine ⟨_, _, _, .inl rfl, Step.newRow hr hro hf (rest := []) (t := elem) (by rw [List.append_nil, Array.toArray_toList]; rfl) rfl rfl rfl e2 (fun _ => rfl), .slc (Ren.upd_same _ _ _) (.inl ⟨rfl, rfl⟩)⟩
        · cases h
    · cases h
  · cases h

end
end Go.Ab
