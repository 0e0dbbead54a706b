/- A part of the proof that what the evaluator says of a piece of code, the model does: no condition but those that each theorem states. -/
import Derived.Test.YtneiaobhjjbedaaEv0
namespace Go.Ab

/-! ### Lists -/

theorem nth_eq {α : Type} : ∀ (l : List α) (n : Nat), nth l n = l[n]?
  | [], _ => by simp [nth]
  | a :: l, 0 => by simp [nth]
  | a :: l, n + 1 => by simp [nth, nth_eq l n]

inductive L2 {α β : Type} (R : α → β → Prop) : List α → List β → Prop
  | nil : L2 R [] []
  | cons {a : α} {b : β} {l : List α} {m : List β} : R a b → L2 R l m → L2 R (a :: l) (b :: m)

section
variable {α β γ : Type} {R S : α → β → Prop}

theorem L2.length {l : List α} {m : List β} (h : L2 R l m) : l.length = m.length := by
  induction h with
  | nil => rfl
  | cons _ _ ih => simp [ih]

theorem L2.mono (hm : ∀ a b, R a b → S a b) {l : List α} {m : List β} (h : L2 R l m) : L2 S l m := by
  induction h with
  | nil => exact .nil
  | cons h _ ih => exact .cons (hm _ _ h) ih

theorem L2.get {l : List α} {m : List β} (h : L2 R l m) {i : Nat} {a : α} (ha : l[i]? = some a) : ∃ b, m[i]? = some b ∧ R a b := by
  induction h generalizing i with
  | nil => simp at ha
  | cons h _ ih =>
    cases i with
    | zero => simp at ha; subst ha; exact ⟨_, by simp, h⟩
    | succ i => simp at ha; obtain ⟨b, hb, hr⟩ := ih ha; exact ⟨b, by simpa using hb, hr⟩

theorem L2.get_none {l : List α} {m : List β} (h : L2 R l m) {i : Nat} (ha : l[i]? = none) : m[i]? = none := by
  have := h.length
  simp at ha ⊢
  omega

theorem L2.append {l l' : List α} {m m' : List β} (h : L2 R l m) (h' : L2 R l' m') : L2 R (l ++ l') (m ++ m') := by
  induction h with
  | nil => exact h'
  | cons h _ ih => exact .cons h ih

theorem L2.take {l : List α} {m : List β} (h : L2 R l m) (n : Nat) : L2 R (l.take n) (m.take n) := by
  induction h generalizing n with
  | nil => simp; exact .nil
  | cons h _ ih => cases n with
    | zero => exact .nil
    | succ n => exact .cons h (ih n)

theorem L2.drop {l : List α} {m : List β} (h : L2 R l m) (n : Nat) : L2 R (l.drop n) (m.drop n) := by
  induction h generalizing n with
  | nil => simp; exact .nil
  | cons h t ih => cases n with
    | zero => exact .cons h t
    | succ n => exact ih n

theorem L2.of_get : ∀ {l : List α} {m : List β}, l.length = m.length → (∀ (i : Nat) (a : α) (b : β), l[i]? = some a → m[i]? = some b → R a b) → L2 R l m
  | [], [], _, _ => .nil
  | [], _ :: _, h, _ => by simp at h
  | _ :: _, [], h, _ => by simp at h
  | a :: l, b :: m, h, hg => .cons (hg 0 a b rfl rfl) (L2.of_get (by simpa using h) fun i x y hx hy => hg (i + 1) x y (by simpa using hx) (by simpa using hy))

theorem L2.refl_of {R : α → α → Prop} : ∀ {l : List α}, (∀ a ∈ l, R a a) → L2 R l l
  | [], _ => .nil
  | a :: l, h => .cons (h a (by simp)) (L2.refl_of fun b hb => h b (by simp [hb]))

theorem L2.map {α' β' : Type} {R' : α' → β' → Prop} {f : α → α'} {g : β → β'} (hf : ∀ a b, R a b → R' (f a) (g b)) {l : List α} {m : List β} (h : L2 R l m) :
    L2 R' (l.map f) (m.map g) := by
  induction h with
  | nil => exact .nil
  | cons h _ ih => exact .cons (hf _ _ h) ih

theorem L2.map_same {α' : Type} {R' : α → β → Prop} {f : α' → α} {g : α' → β} : ∀ {l : List α'}, (∀ a ∈ l, R' (f a) (g a)) → L2 R' (l.map f) (l.map g)
  | [], _ => .nil
  | a :: l, h => .cons (h a (by simp)) (L2.map_same fun b hb => h b (by simp [hb]))

theorem L2.nil_left {m : List β} (h : L2 R [] m) : m = [] := by cases h; rfl
theorem L2.cons_left {a : α} {l : List α} {m : List β} (h : L2 R (a :: l) m) : ∃ b m', m = b :: m' ∧ R a b ∧ L2 R l m' := by
  cases h with
  | cons h t => exact ⟨_, _, rfl, h, t⟩
end

/-! ### The trie -/

section
variable {α : Type}

theorem natRec_if {R : Type} (A B : R) (x : Nat) : Nat.rec (motive := fun _ => R) A (fun _ _ => B) x = if x = 0 then A else B := by cases x <;> rfl

theorem T.setK_leaf {R : Type} (f m : Nat) (v : α) (k : T α → R) : T.setK (f + 1) .leaf (m + 1) v k =
    if m % 2 = 0 then T.setK f .leaf (m / 2) v (fun l => k (.node l none .leaf)) else T.setK f .leaf (m / 2) v (fun r => k (.node .leaf none r)) := natRec_if _ _ _
theorem T.setK_node {R : Type} (f m : Nat) (l r : T α) (u : Option α) (v : α) (k : T α → R) : T.setK (f + 1) (.node l u r) (m + 1) v k =
    if m % 2 = 0 then T.setK f l (m / 2) v (fun l => k (.node l u r)) else T.setK f r (m / 2) v (fun r => k (.node l u r)) := natRec_if _ _ _

theorem T.setK_eq : ∀ (f : Nat) {R : Type} (t : T α) (n : Nat) (v : α) (k : T α → R), T.setK f t n v k = k (T.setK f t n v id) := by
  intro f
  induction f with
  | zero => intro R t n v k; rfl
  | succ f ih =>
    intro R t n v k
    cases t with
    | leaf =>
      cases n with
      | zero => rfl
      | succ m =>
        rw [T.setK_leaf, T.setK_leaf]
        split
        · exact (ih _ _ _ (fun l => k (T.node l none T.leaf))).trans (congrArg k (ih _ _ _ (fun l => id (T.node l none T.leaf))).symm)
        · exact (ih _ _ _ (fun l => k (T.node T.leaf none l))).trans (congrArg k (ih _ _ _ (fun l => id (T.node T.leaf none l))).symm)
    | node l u r =>
      cases n with
      | zero => rfl
      | succ m =>
        rw [T.setK_node, T.setK_node]
        split
        · exact (ih _ _ _ (fun x => k (T.node x u r))).trans (congrArg k (ih _ _ _ (fun x => id (T.node x u r))).symm)
        · exact (ih _ _ _ (fun x => k (T.node l u x))).trans (congrArg k (ih _ _ _ (fun x => id (T.node l u x))).symm)

noncomputable def T.set (t : T α) (n : Nat) (v : α) : T α := T.setK (n + 1) t n v id

theorem T.get_leaf (n : Nat) : (T.leaf : T α).get n = none := by cases n <;> rfl

theorem T.get_zero (l r : T α) (u : Option α) : (T.node l u r).get 0 = u := rfl
theorem T.get_succ (l r : T α) (u : Option α) (m : Nat) : (T.node l u r).get (m + 1) = if m % 2 = 0 then l.get (m / 2) else r.get (m / 2) := by
  exact natRec_if _ _ _

def T.l : T α → T α | .leaf => .leaf | .node l _ _ => l
def T.r : T α → T α | .leaf => .leaf | .node _ _ r => r
def T.u : T α → Option α | .leaf => none | .node _ u _ => u

theorem T.get_zero' (t : T α) : t.get 0 = t.u := by cases t <;> rfl
theorem T.get_succ' (t : T α) (m : Nat) : t.get (m + 1) = if m % 2 = 0 then t.l.get (m / 2) else t.r.get (m / 2) := by
  cases t with
  | leaf => simp [T.get_leaf, T.l, T.r]
  | node l u r => exact T.get_succ l r u m

theorem T.setK_zero (f : Nat) (t : T α) (v : α) : T.setK (f + 1) t 0 v id = .node t.l (some v) t.r := by cases t <;> rfl
theorem T.setK_succ (f : Nat) (t : T α) (n : Nat) (v : α) :
    T.setK (f + 1) t (n + 1) v id = if n % 2 = 0 then .node (T.setK f t.l (n / 2) v id) t.u t.r else .node t.l t.u (T.setK f t.r (n / 2) v id) := by
  cases t with
  | leaf =>
    rw [T.setK_leaf]
    split
    · rw [T.setK_eq]; rfl
    · rw [T.setK_eq]; rfl
  | node l u r =>
    rw [T.setK_node]
    split
    · rw [T.setK_eq]; rfl
    · rw [T.setK_eq]; rfl

theorem T.get_setK : ∀ (f : Nat) (t : T α) (n : Nat) (v : α) (m : Nat), n < f → (T.setK f t n v id).get m = if m = n then some v else t.get m := by
  intro f
  induction f with
  | zero => intro t n v m h; omega
  | succ f ih =>
    intro t n v m h
    cases n with
    | zero =>
      rw [T.setK_zero]
      cases m with
      | zero => rfl
      | succ m => rw [if_neg (by omega), T.get_succ, T.get_succ']
    | succ n =>
      have hn : n / 2 < f := by omega
      rw [T.setK_succ]
      cases m with
      | zero => rw [if_neg (show ¬ 0 = n + 1 by omega), T.get_zero' t]; split <;> rfl
      | succ m =>
        by_cases h0 : n % 2 = 0
        · rw [if_pos h0, T.get_succ, T.get_succ']
          by_cases h1 : m % 2 = 0
          · rw [if_pos h1, if_pos h1, ih _ _ _ _ hn]
            by_cases e : m = n
            · subst e; rw [if_pos rfl, if_pos rfl]
            · rw [if_neg (by omega), if_neg (by omega)]
          · rw [if_neg h1, if_neg h1, if_neg (by omega)]
        · rw [if_neg h0, T.get_succ, T.get_succ']
          by_cases h1 : m % 2 = 0
          · rw [if_pos h1, if_pos h1, if_neg (by omega)]
          · rw [if_neg h1, if_neg h1, ih _ _ _ _ hn]
            by_cases e : m = n
            · subst e; rw [if_pos rfl, if_pos rfl]
            · rw [if_neg (by omega), if_neg (by omega)]

theorem T.get_set (t : T α) (n : Nat) (v : α) (m : Nat) : (t.set n v).get m = if m = n then some v else t.get m := T.get_setK _ _ _ _ _ (by omega)

theorem T.setK_set {R : Type} (t : T α) (n : Nat) (v : α) (k : T α → R) : T.setK (n + 1) t n v k = k (t.set n v) := T.setK_eq _ _ _ _ _
end

section
variable {R : Type}
noncomputable def T.sets (l : List Value) (i : Nat) (t : T Value) : T Value := T.setsK l i t id

theorem T.setsK_eq : ∀ (l : List Value) {R : Type} (i : Nat) (t : T Value) (k : T Value → R), T.setsK l i t k = k (T.sets l i t)
  | [], _, _, _, _ => rfl
  | v :: l, _, i, t, k => by
    unfold T.sets
    simp only [T.setsK, T.setK_set]
    rw [T.setsK_eq l, T.setsK_eq l (k := id)]
    rfl

theorem T.sets_cons (v : Value) (l : List Value) (i : Nat) (t : T Value) : T.sets (v :: l) i t = T.sets l (i + 1) (t.set i v) := by
  unfold T.sets; simp only [T.setsK, T.setK_set]

theorem T.get_sets : ∀ (l : List Value) (i : Nat) (t : T Value) (m : Nat), (T.sets l i t).get m = if i ≤ m ∧ m < i + l.length then l[m - i]? else t.get m
  | [], i, t, m => by
    have : ¬ (i ≤ m ∧ m < i + 0) := by omega
    simp only [List.length_nil, this, if_false]; rfl
  | v :: l, i, t, m => by
    rw [T.sets_cons, T.get_sets l, T.get_set]
    by_cases h1 : i + 1 ≤ m ∧ m < i + 1 + l.length
    · rw [if_pos h1, if_pos (by simp; omega)]
      obtain ⟨j, rfl⟩ : ∃ j, m = i + 1 + j := ⟨m - (i + 1), by omega⟩
      have e1 : i + 1 + j - (i + 1) = j := by omega
      have e2 : i + 1 + j - i = j + 1 := by omega
      rw [e1, e2]; simp
    · rw [if_neg h1]
      by_cases h2 : m = i
      · subst h2
        rw [if_pos rfl, if_pos (by simp)]; simp
      · rw [if_neg h2, if_neg (by simp; omega)]
end

end Go.Ab
