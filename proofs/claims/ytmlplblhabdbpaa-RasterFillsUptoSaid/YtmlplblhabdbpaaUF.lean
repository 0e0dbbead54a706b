/- A part of the proof: rules for walking code over the evaluator, and what the functions that were walked come to: no condition but those that each theorem states. -/
import Derived.Test.YtmlplblhabdbpaaUE
set_option linter.unusedVariables false
set_option linter.unusedSimpArgs false
namespace Go.Proofs.Ytmlplblhabdbpaa
open Go.Ab
set_option linter.unusedVariables false
set_option linter.unusedSimpArgs false
/-! ### Counting cells -/
def cnt (lo : Int) : Nat → (Int → Bool) → Int
  | 0, _ => 0
  | n + 1, P => cnt lo n P + (if P (lo + n) = true then 1 else 0)
theorem cnt_congr {lo : Int} {P Q : Int → Bool} : ∀ {n : Nat}, (∀ i, lo ≤ i → i < lo + n → P i = Q i) → cnt lo n P = cnt lo n Q
  | 0, _ => rfl
  | n + 1, h => by
    simp only [cnt]
    rw [cnt_congr (n := n) fun i a b => h i a (by omega), h (lo + n) (by omega) (by omega)]
theorem cnt_add {lo : Int} {P Q : Int → Bool} (h : ∀ i, P i = true → Q i = false) : ∀ n : Nat, cnt lo n (fun i => P i || Q i) = cnt lo n P + cnt lo n Q
  | 0 => rfl
  | n + 1 => by
    simp only [cnt]
    rw [cnt_add h n]
    have h1 := h (lo + n)
    by_cases hP : P (lo + n) = true
    · have hQ := h1 hP
      simp [hP, hQ]; omega
    · by_cases hQ : Q (lo + n) = true
      · simp [hP, hQ]; omega
      · simp [hP, hQ]
theorem cnt_none {lo : Int} : ∀ n : Nat, cnt lo n (fun _ => false) = 0
  | 0 => rfl
  | n + 1 => by simp only [cnt]; rw [cnt_none n]; rfl
theorem cnt_bd {lo : Int} {P : Int → Bool} : ∀ n : Nat, 0 ≤ cnt lo n P ∧ cnt lo n P ≤ n
  | 0 => ⟨Int.le_refl _, Int.le_refl _⟩
  | n + 1 => by
    have := cnt_bd (lo := lo) (P := P) n
    simp only [cnt]
    split <;> omega
/-- How many cells from lo on, n of them, lie from a on, below b. -/
def ovN (lo : Int) (n : Nat) (a b : Int) : Int := if (if b < lo + n then b else lo + n) - (if a < lo then lo else a) < 0 then 0 else (if b < lo + n then b else lo + n) - (if a < lo then lo else a)
theorem cnt_iv {lo a b : Int} (n : Nat) : cnt lo n (fun i => decide (a ≤ i) && decide (i < b)) = ovN lo n a b := by
  induction n with
  | zero => unfold cnt ovN; split <;> (repeat' split) <;> omega
  | succ n ih =>
    simp only [cnt]
    rw [ih]
    by_cases h1 : a ≤ lo + n <;> by_cases h2 : lo + n < b <;> simp only [h1, h2, decide_true, decide_false, Bool.and_true, Bool.and_false, Bool.false_and, Bool.true_and] <;>
      (unfold ovN; push_cast; repeat' split) <;> first | omega | (exfalso; simp at *; omega)
/-- A cell's winding by crossings. -/
def windC : List Cr → Int → Int
  | [], _ => 0
  | c :: cs, i => (if c.1 ≤ i then c.2 else 0) + windC cs i
def ovR (lo : Int) (n : Nat) (sp : List Sn) : Int := (sp.map fun s => ovN lo n s.2.1 s.2.2).sum
theorem ovR_app {lo : Int} {n : Nat} {a b : List Sn} : ovR lo n (a ++ b) = ovR lo n a + ovR lo n b := by unfold ovR; rw [List.map_append, List.sum_append]
theorem ovN_nn {lo a b : Int} {n : Nat} : 0 ≤ ovN lo n a b := by unfold ovN; split <;> omega
theorem ovR_nn {lo : Int} {n : Nat} : ∀ sp : List Sn, 0 ≤ ovR lo n sp
  | [] => Int.le_refl _
  | s :: sp => by have := ovR_nn (lo := lo) (n := n) sp; unfold ovR at this ⊢; simp only [List.map_cons, List.sum_cons]; have := ovN_nn (lo := lo) (n := n) (a := s.2.1) (b := s.2.2); omega
theorem windC_low {cs : List Cr} {i : Int} (h : ∀ c ∈ cs, i < c.1) : windC cs i = 0 := by
  induction cs with
  | nil => rfl
  | cons c cs ih =>
    simp only [windC]
    rw [if_neg (by have := h c (by simp); omega), ih fun d hd => h d (by simp [hd])]; rfl
theorem spR_cnt {lo j : Int} {n : Nat} : ∀ (cs : List Cr) (w : Int), Srt Prod.fst cs → w + sumB cs = 0 → ∀ c ds, cs = c :: ds → ovR lo n (spR j w cs) = cnt lo n (fun i => decide (c.1 ≤ i) && decide (w + windC cs i ≠ 0))
  | c :: ds, w, hs, hz, _, _, rfl => by
    have hz' : w + c.2 + sumB ds = 0 := by rw [← hz]; unfold sumB; simp only [List.map_cons, List.sum_cons]; omega
    obtain ⟨h1, h2⟩ := List.pairwise_cons.mp hs
    cases ds with
    | nil =>
      have h0 : w + c.2 = 0 := by simpa [sumB] using hz'
      simp only [spR, if_pos h0, List.nil_append]
      rw [show ovR lo n [] = cnt lo n (fun _ => false) from by rw [cnt_none]; rfl]
      refine cnt_congr fun i _ _ => ?_
      by_cases hc : c.1 ≤ i
      · simp [windC, hc, h0]
      · simp [hc]
    | cons d ds =>
      have ih := spR_cnt (lo := lo) (j := j) (n := n) (d :: ds) (w + c.2) h2 hz' d ds rfl
      have hcd := h1 d (by simp)
      have hlow : ∀ i, i < d.1 → windC (d :: ds) i = 0 := fun i hi => windC_low fun x hx => by
        rcases List.mem_cons.mp hx with rfl | hx
        · exact hi
        · have := (List.pairwise_cons.mp h2).1 x hx
          omega
      have e : ∀ i, (decide (c.1 ≤ i) && decide (w + windC (c :: d :: ds) i ≠ 0)) = ((decide (w + c.2 ≠ 0) && (decide (c.1 ≤ i) && decide (i < d.1))) || (decide (d.1 ≤ i) && decide (w + c.2 + windC (d :: ds) i ≠ 0))) := fun i => by
        by_cases hc : c.1 ≤ i
        · have hw : w + windC (c :: d :: ds) i = w + c.2 + windC (d :: ds) i := by rw [windC, if_pos hc]; omega
          rw [hw]
          by_cases hd : i < d.1
          · rw [hlow i hd]; simp [hc, hd, Int.not_le.mpr hd]
          · simp [hc, hd, Int.not_lt.mp hd]
        · have hd : ¬ d.1 ≤ i := by omega
          simp [hc, hd]
      rw [cnt_congr (Q := fun i => (decide (w + c.2 ≠ 0) && (decide (c.1 ≤ i) && decide (i < d.1))) || (decide (d.1 ≤ i) && decide (w + c.2 + windC (d :: ds) i ≠ 0))) fun i _ _ => e i]
      rw [cnt_add (P := fun i => decide (w + c.2 ≠ 0) && (decide (c.1 ≤ i) && decide (i < d.1))) (fun i hi => by
        simp only [Bool.and_eq_true, decide_eq_true_eq] at hi
        simp only [Bool.and_eq_false_iff, decide_eq_false_iff_not]
        left; omega), ← ih]
      by_cases h0 : w + c.2 = 0
      · rw [cnt_congr (Q := fun _ => false) fun i _ _ => by simp [h0], cnt_none]
        conv => lhs; rw [spR]
        rw [if_pos h0, List.nil_append, Int.zero_add]
      · rw [cnt_congr (Q := fun i => decide (c.1 ≤ i) && decide (i < d.1)) fun i _ _ => by simp [h0], cnt_iv]
        conv => lhs; rw [spR]
        rw [if_neg h0, ovR_app]
        unfold ovR
        simp
/-- A row's spans, cell by cell. -/
theorem spR_row {lo j : Int} {n : Nat} {cs : List Cr} (hs : Srt Prod.fst cs) (hz : sumB cs = 0) : ovR lo n (spR j 0 cs) = cnt lo n (fun i => decide (windC cs i ≠ 0)) := by
  cases cs with
  | nil =>
    rw [show ovR lo n (spR j 0 []) = cnt lo n (fun _ => false) from by rw [cnt_none]; rfl]
    exact cnt_congr fun i _ _ => by simp [windC]
  | cons c ds =>
    rw [spR_cnt (c :: ds) 0 hs (by rw [Int.zero_add]; exact hz) c ds rfl]
    refine cnt_congr fun i _ _ => ?_
    by_cases hc : c.1 ≤ i
    · simp [hc]
    · rw [windC_low fun x hx => ?_]
      · simp [hc]
      · rcases List.mem_cons.mp hx with rfl | hx
        · omega
        · have := (List.pairwise_cons.mp hs).1 x hx
          omega
theorem windC_perm {C D : List Cr} (h : C.Perm D) (i : Int) : windC C i = windC D i := by
  induction h with
  | nil => rfl
  | cons x _ ih => simp only [windC, ih]
  | swap x y l => simp only [windC]; omega
  | trans _ _ h1 h2 => exact h1.trans h2
/-- All rows' spans. -/
def rowsC (l : List Ed) (j0 lo : Int) (n : Nat) : Nat → Int
  | 0 => 0
  | m + 1 => rowsC l j0 lo n m + cnt lo n (fun i => decide (windC (crossM l (j0 + m)) i ≠ 0))
theorem spans_cnt {SM : List Cr → List Cr} (hp : ∀ C, (SM C).Perm C) (ho : ∀ C, Srt Prod.fst (SM C)) {l : List Ed} (hz : ∀ j, sumB (crossM l j) = 0) {j0 lo : Int} {n : Nat} : ∀ m : Nat, ovR lo n (spansM SM l j0 m) = rowsC l j0 lo n m
  | 0 => rfl
  | m + 1 => by
    rw [spans_succ, ovR_app, spans_cnt hp ho hz m, spR_row (ho _) (by rw [sumB_perm (hp _)]; exact hz _)]
    simp only [rowsC]
    congr 1
    exact cnt_congr fun i _ _ => by rw [windC_perm (hp _)]
theorem rowsC_bd {l : List Ed} {j0 lo : Int} {n : Nat} : ∀ m : Nat, 0 ≤ rowsC l j0 lo n m ∧ rowsC l j0 lo n m ≤ m * n
  | 0 => ⟨Int.le_refl _, by simp [rowsC]⟩
  | m + 1 => by
    have h1 := rowsC_bd (l := l) (j0 := j0) (lo := lo) (n := n) m
    have h2 := cnt_bd (lo := lo) (P := fun i => decide (windC (crossM l (j0 + m)) i ≠ 0)) n
    simp only [rowsC]
    push_cast
    rw [Int.add_mul, Int.one_mul]
    omega
/-- Spans lie where crossings may lie. -/
theorem spR_bd {j : Int} : ∀ (cs : List Cr) (w : Int), (∀ c ∈ cs, c.Ok) → ∀ s ∈ spR j w cs, (-4503599627370496 ≤ s.2.1 ∧ s.2.1 ≤ 4503599627370496) ∧ (-4503599627370496 ≤ s.2.2 ∧ s.2.2 ≤ 4503599627370496)
  | [], _, _, s, h => by cases h
  | c :: cs, w, hok, s, h => by
    simp only [spR] at h
    rcases List.mem_append.mp h with h | h
    · split at h
      · cases h
      · cases cs with
        | nil => cases h
        | cons d ds =>
          rw [List.mem_singleton.mp h]
          exact ⟨(hok c (by simp)).1, (hok d (by simp)).1⟩
    · exact spR_bd cs _ (fun d hd => hok d (by simp [hd])) s h
theorem spans_bd {SM : List Cr → List Cr} (hp : ∀ C, (SM C).Perm C) {l : List Ed} (hok : ∀ e ∈ l, e.Ok ∧ e.y0 < e.y1 ∧ (e.by' = 1 ∨ e.by' = -1)) {j0 : Int} {n : Nat} : ∀ s ∈ spansM SM l j0 n, (-4503599627370496 ≤ s.2.1 ∧ s.2.1 ≤ 4503599627370496) ∧ (-4503599627370496 ≤ s.2.2 ∧ s.2.2 ≤ 4503599627370496) := by
  intro s hs
  unfold spansM at hs
  obtain ⟨i, _, hs⟩ := List.mem_flatMap.mp hs
  refine spR_bd _ _ (fun c hc => ?_) s hs
  have hc := (hp _).mem_iff.mp hc
  unfold crossM actM actB at hc
  obtain ⟨e, he, rfl⟩ := List.mem_map.mp hc
  obtain ⟨h1, h2⟩ := List.mem_filter.mp he
  simp at h2
  obtain ⟨o1, _, o3⟩ := hok e h1
  exact ⟨first_bd o1 h2, o3⟩
end Go.Proofs.Ytmlplblhabdbpaa

namespace Go.Proofs.Ytmlplblhabdbpaa
open Go.Ab
variable {X : CallE} {ro : Nat}
set_option maxRecDepth 10000
set_option linter.unusedVariables false
set_option linter.unusedSimpArgs false

/-- The closure of Count: it adds a span's cells. -/
theorem cnt1_sp {s : St} {H : Hp} {an ax e1 e2 : Nat} {n x j a b : Int} (hX : OwnX X) (hM : Models ro s H) (hn : H an = some (.row e1 [.int .i64 n])) (hx : H ax = some (.row e2 [.int .i64 x])) (hxb : -16777216 ≤ x ∧ x ≤ 16777216) (hnb : 0 ≤ n ∧ n ≤ 1000000)
    (ha : -4503599627370496 ≤ a ∧ a ≤ 4503599627370496) (hb : -4503599627370496 ≤ b ∧ b ≤ 4503599627370496) :
    Sp X Try.prog ro 34 [.int .i64 j, .int .i64 a, .int .i64 b, .pointer (some ⟨an, 0, none⟩), .pointer (some ⟨ax, 0, none⟩)] s fun v H' => v = .tuple #[] ∧ H' = H.up an (.row e1 [.int .i64 (n + ovN (64 * x) 64 a b)]) := by
  have hov := ovN_nn (lo := 64 * x) (n := 64) (a := a) (b := b)
  have hov2 : ovN (64 * x) 64 a b ≤ 64 := by unfold ovN; (repeat' split) <;> omega
  refine Sp.of_body (hX _ _ _ (by decide) (by decide) (by decide) (by decide)) Try.func34 rfl Try.ntmps34 (by simp) ?_
  refine WC.region ?_
  refine WO.cons (SV.loadM (by assumption) rfl (by assumption) (by rfl) ?_) (by decide)
  refine WO.cons (SV.moveV (by constructor) ?_) (by decide)
  refine WO.cons (SV.loadM (by assumption) rfl (by assumption) (by rfl) ?_) (by decide)
  refine WO.cons (SV.mul64 rfl rfl (by omega) ?_) (by decide)
  refine WO.cons (SV.add64 rfl rfl (by omega) ?_) (by decide)
  refine WO.cons (SV.min2 rfl rfl ?_) (by decide)
  refine WO.cons (SV.moveV (by constructor) ?_) (by decide)
  refine WO.cons (SV.loadM (by assumption) rfl (by assumption) (by rfl) ?_) (by decide)
  refine WO.cons (SV.mul64 rfl rfl (by omega) ?_) (by decide)
  refine WO.cons (SV.max2 rfl rfl ?_) (by decide)
  refine WO.cons (SV.sub64 rfl rfl (by omega) ?_) (by decide)
  refine WO.cons (SV.max2 rfl rfl ?_) (by decide)
  refine WO.cons (SV.add64 rfl rfl (by omega) ?_) (by decide)
  refine WO.cons0 (SV.storeV (by assumption) rfl (by constructor) (by assumption) (by (simp; done)) (fun s0_13 hn0_13 hM0_13 => ?_))
  refine WO.nil ?_
  have e : (if ((if 64 * x + 64 < b then 64 * x + 64 else b) - if a < 64 * x then 64 * x else a) < 0 then 0 else (if 64 * x + 64 < b then 64 * x + 64 else b) - if a < 64 * x then 64 * x else a) = ovN (64 * x) 64 a b := by
    unfold ovN; (repeat' split) <;> omega
  rw [e] at hM0_13
  exact fin_none (e := .normal) rfl trivial (by omega) hM0_13 ⟨rfl, rfl⟩
/-! ### Closed polygons -/
theorem crossM_app {A B : List Ed} {j : Int} : crossM (A ++ B) j = crossM A j ++ crossM B j := by unfold crossM actM; rw [List.filter_append, List.map_append]
theorem crossM_perm {A B : List Ed} (h : A.Perm B) (j : Int) : (crossM A j).Perm (crossM B j) := (h.filter _).map _
theorem sumB_app {A B : List Cr} : sumB (A ++ B) = sumB A + sumB B := by unfold sumB; rw [List.map_append, List.sum_append]
def abv (j : Int) (s : Spt) : Int := if j < s.2 then 1 else 0
theorem edge_sum (a b : Spt) (j : Int) : sumB (crossM (edgeM a b) j) = abv j b - abv j a := by
  unfold edgeM crossM actM actB abv sumB
  split
  · rename_i h
    by_cases h1 : a.2 ≤ j <;> by_cases h2 : j < b.2 <;> simp [List.filter_cons, h1, h2] <;> omega
  · rename_i h
    split
    · rename_i h2
      by_cases h3 : b.2 ≤ j <;> by_cases h4 : j < a.2 <;> simp [List.filter_cons, h3, h4] <;> omega
    · rename_i h2
      have : a.2 = b.2 := by omega
      simp [this]
theorem sum_flat {c : List Spt} {j : Int} : ∀ I : List Nat, sumB (crossM (I.flatMap (edgeAt c)) j) = (I.map fun i => abv j (c.getD ((i + 1) % c.length) (0, 0)) - abv j (c.getD i (0, 0))).sum
  | [] => rfl
  | i :: I => by
    rw [List.flatMap_cons, crossM_app, sumB_app, sum_flat I, List.map_cons, List.sum_cons]
    congr 1
    exact edge_sum _ _ _
theorem tele {f : Nat → Int} (n : Nat) : ∀ m, m ≤ n → ((List.range m).map fun i => f ((i + 1) % (n + 1)) - f i).sum = f m - f 0
  | 0, _ => by simp
  | m + 1, h => by
    rw [List.range_succ, List.map_append, List.sum_append, tele n m (by omega)]
    simp only [List.map_cons, List.map_nil, List.sum_cons, List.sum_nil]
    rw [Nat.mod_eq_of_lt (by omega)]; omega
theorem cyc {f : Nat → Int} : ∀ n, ((List.range n).map fun i => f ((i + 1) % n) - f i).sum = 0
  | 0 => rfl
  | n + 1 => by
    rw [List.range_succ, List.map_append, List.sum_append, tele n n (Nat.le_refl _)]
    simp only [List.map_cons, List.map_nil, List.sum_cons, List.sum_nil, Nat.mod_self]; omega
theorem closed (j : Int) : ∀ p : List (List Spt), sumB (crossM (edgesM p) j) = 0
  | [] => rfl
  | c :: p => by
    have e : edgesM (c :: p) = edgesC c ++ edgesM p := by unfold edgesM; rw [List.flatMap_cons]
    rw [e, crossM_app, sumB_app, closed j p]
    unfold edgesC
    rw [sum_flat, cyc (f := fun i => abv j (c.getD i (0, 0)))]; rfl
theorem rowsC_perm {A B : List Ed} (h : A.Perm B) {j0 lo : Int} {n : Nat} : ∀ m, rowsC A j0 lo n m = rowsC B j0 lo n m
  | 0 => rfl
  | m + 1 => by
    simp only [rowsC]
    rw [rowsC_perm h m]
    congr 1
    exact cnt_congr fun i _ _ => by rw [windC_perm (crossM_perm h _)]
/-- How many cells of a pixel are inside. -/
def cellsM (p : List (List Spt)) (x y : Int) : Int := rowsC (edgesM p) (64 * y) (64 * x) 64 64
def countM (p : List (List Spt)) (x y : Int) : Int × Int := if checkM p ≠ 0 then (0, checkM p) else if smallD x = true ∧ smallD y = true then (cellsM p x y, 0) else (0, 214)
end Go.Proofs.Ytmlplblhabdbpaa

namespace Go.Proofs.Ytmlplblhabdbpaa
open Go.Ab
variable {X : CallE} {ro : Nat}
set_option maxRecDepth 10000
set_option linter.unusedVariables false
set_option linter.unusedSimpArgs false

/-- The closure of Count tells its spans. -/
theorem cntSpan {an ax e1 e2 : Nat} {x : Int} {full : List Sn} (hX : OwnX X) (hxb : -16777216 ≤ x ∧ x ≤ 16777216) (hne : ax ≠ an) (hb : ∀ s ∈ full, (-4503599627370496 ≤ s.2.1 ∧ s.2.1 ≤ 4503599627370496) ∧ (-4503599627370496 ≤ s.2.2 ∧ s.2.2 ≤ 4503599627370496)) (htot : ovR (64 * x) 64 full ≤ 4096) :
    Span X ro (.func (.func 34) #[] #[.pointer (some ⟨an, 0, none⟩), .pointer (some ⟨ax, 0, none⟩)]) (fun ν => ν = an ∨ ν = ax) (fun sp H => H an = some (.row e1 [.int .i64 (ovR (64 * x) 64 sp)]) ∧ H ax = some (.row e2 [.int .i64 x])) full where
  fn := by
    refine ⟨_, _, rfl, fun s H l j a b l2 hM ⟨h1, h2⟩ hf => ?_⟩
    have hm : (j, a, b) ∈ full := by rw [hf]; simp
    obtain ⟨ha, hb'⟩ := hb _ hm
    have h0 := ovR_nn (lo := 64 * x) (n := 64) l
    have h3 : ovR (64 * x) 64 full = ovR (64 * x) 64 l + ovR (64 * x) 64 ((j, a, b) :: l2) := by rw [hf, ovR_app]
    have h4 := ovR_nn (lo := 64 * x) (n := 64) ((j, a, b) :: l2)
    refine (cnt1_sp hX hM h1 h2 hxb ⟨h0, by omega⟩ ha hb').mono ?_
    rintro v H' ⟨rfl, rfl⟩
    refine ⟨rfl, ⟨?_, Hp.up_ne hne h2⟩, fun ν o hB e => Hp.up_ne (fun h => hB (.inl h)) e⟩
    rw [Hp.up_same, ovR_app]
    unfold ovR
    simp
  fr := fun l H H' ⟨h1, h2⟩ h => ⟨h _ _ (.inl rfl) h1, h _ _ (.inr rfl) h2⟩
  pres := fun l H ν ⟨h1, h2⟩ hB => by rcases hB with rfl | rfl <;> exact ⟨_, by assumption⟩
set_option maxHeartbeats 1000000 in
/-- raster.Count. -/
theorem count_sp {s : St} {H : Hp} {A : Option Addr} {cp : Nat} {p : List (List Spt)} {x y : Int} {SM : List Cr → List Cr} (hX : OwnX X) (hE : ExtOk X ro SM) (hM : Models ro s H) (hp : PolyH H A p) (hb : p.length ≤ 4611686018427387904) (hbig : totM p ≤ 4611686018427387904) :
    Sp X Try.prog ro 18 [.slice A p.length cp, .int .i64 x, .int .i64 y] s fun v H' => v = .tuple #[.int .i64 (countM p x y).1, .int .i64 (countM p x y).2] ∧ Ext H H' := by
  refine Sp.of_body (hX _ _ _ (by decide) (by decide) (by decide) (by decide)) Try.func18 rfl Try.ntmps18 (by simp) ?_
  refine WC.seq ?_
  refine WC.region ?_
  refine WO.cons (SV.boxV (by assumption) (by constructor) (fun a0_0 s0_0 hf0_0 hne0_0 hn0_0 hM0_0 => ?_)) (by decide)
  refine WO.cons (SV.assignV (by constructor) ?_) (by decide)
  refine WO.cons (SV.assignV (by constructor) ?_) (by decide)
  refine WO.nil ?_
  have hE0 : Ext H (H.up a0_0 (.row 0 [.int .i64 x])) := ext_up hne0_0
  refine WC.seq (WC.seq ?_)
  refine WC.region ?_
  refine WO.cons (SV.moveV (by constructor) ?_) (by decide)
  refine WO.cons ?_ (by decide)
  refine SV.callM rfl rfl (check_sp hX hM0_0 (hp.ext hE0) hb hbig) ?_
  rintro v s1 H1 hn1 hM1 ⟨rfl, rfl⟩
  refine WO.cons (SV.assignV (by constructor) ?_) (by decide)
  refine WO.nil ?_
  refine WC.seq ?_
  refine WC.region ?_
  refine WO.cons (SV.moveV (by constructor) ?_) (by decide)
  refine WO.cons (SV.neqI rfl rfl ?_) (by decide)
  refine WO.nil ?_
  by_cases hc : checkM p = 0
  · have hd : (decide (checkM p ≠ 0)) = false := decide_eq_false (by simp [hc])
    have hw : ¬ 16384 < totM p ∧ wideM p = false := by
      unfold checkM at hc
      by_cases h1 : 16384 < totM p
      · rw [if_pos h1] at hc; cases hc
      · rw [if_neg h1] at hc
        cases hw : wideM p with
        | true => rw [hw, if_pos rfl] at hc; cases hc
        | false => exact ⟨h1, rfl⟩
    obtain ⟨htot, hwide⟩ := hw
    refine WC.condF rfl (by assumption) (WC.skip (WC.seq (WC.seq ?_)))
    have hx0 : (H.up a0_0 (.row 0 [.int .i64 x])) a0_0 = some (.row 0 [.int .i64 x]) := Hp.up_same
    have bad : ¬ (smallD x = true ∧ smallD y = true) → countM p x y = (0, 214) := fun h => by unfold countM; rw [if_neg (fun h2 => h2 hc), if_neg h]
    refine WC.region ?_
    refine WO.cons (SV.loadM (by assumption) rfl (by assumption) (by rfl) ?_) (by decide)
    refine WO.cons ?_ (by decide)
    refine SV.callM rfl rfl (small_sp hX hM1) ?_
    rintro v s2 H2 hn2 hM2 ⟨rfl, rfl⟩
    cases hsx : smallD x with
    | false =>
      refine WO.cons (SV.notF rfl (by rfl) ?_) (by decide)
      refine WO.cons (SV.moveV (by constructor) ?_) (by decide)
      refine WO.guardN rfl rfl rfl (by rfl) ?_ (by decide)
      all_goals (refine WO.guardN rfl rfl rfl (by rfl) ?_ (by decide))
      refine WO.guardN rfl rfl rfl (by rfl) ?_ (by decide)
      all_goals (refine WO.cons (SV.pickTV rfl (by rfl) (by constructor) ?_) (by decide))
      all_goals refine WO.nil ?_
      refine WC.condT rfl (by rfl) (WC.seq ?_)
      refine WC.region ?_
      refine WO.cons (SV.assignV (by constructor) ?_) (by decide)
      refine WO.cons (SV.assignV (by constructor) ?_) (by decide)
      refine WO.nil ?_
      refine WC.ret ?_
      rw [bad (by rw [hsx]; simp)]
      exact fin_two (e := .ret) (v := .int .i64 _) (w := .int .i64 _) rfl trivial rfl rfl (by omega) hM2 ⟨rfl, hE0⟩
    | true =>
      refine WO.cons (SV.notT rfl (by rfl) ?_) (by decide)
      refine WO.cons (SV.moveV (by constructor) ?_) (by decide)
      refine WO.guardY rfl rfl rfl (by rfl) (SV.moveV (by constructor) ?_) (by decide)
      all_goals (refine WO.guardY rfl rfl rfl (by rfl) ?_ (by decide))
      refine SV.callM rfl rfl (small_sp hX hM2) ?_
      rintro v s3 H3 hn3 hM3 ⟨rfl, rfl⟩
      cases hsy : smallD y with
      | false =>
        refine WO.guardY rfl rfl rfl (by rfl) (SV.notF rfl (by rfl) ?_) (by decide)
        all_goals (refine WO.cons (SV.pickFV rfl (by rfl) (by constructor) ?_) (by decide))
        all_goals refine WO.nil ?_
        refine WC.condT rfl (by rfl) (WC.seq ?_)
        refine WC.region ?_
        refine WO.cons (SV.assignV (by constructor) ?_) (by decide)
        refine WO.cons (SV.assignV (by constructor) ?_) (by decide)
        refine WO.nil ?_
        refine WC.ret ?_
        rw [bad (by rw [hsy]; simp)]
        exact fin_two (e := .ret) (v := .int .i64 _) (w := .int .i64 _) rfl trivial rfl rfl (by omega) hM3 ⟨rfl, hE0⟩
      | true =>
        refine WO.guardY rfl rfl rfl (by rfl) (SV.notT rfl (by rfl) ?_) (by decide)
        all_goals (refine WO.cons (SV.pickFV rfl (by rfl) (by constructor) ?_) (by decide))
        all_goals refine WO.nil ?_
        refine WC.condF rfl (by rfl) (WC.skip (WC.seq ?_))
        have hxb : -16777216 ≤ x ∧ x ≤ 16777216 := of_decide_eq_true hsx
        have hyb : -16777216 ≤ y ∧ y ≤ 16777216 := of_decide_eq_true hsy
        refine WC.region ?_
        refine WO.cons (SV.allocM (by assumption) (fun a6_0 s6_0 hf6_0 hne6_0 hn6_0 hM6_0 => ?_)) (by decide)
        refine WO.cons0 (SV.storeV (by assumption) rfl (by constructor) (by exact Hp.up_same) (by (simp; done)) (fun s6_1 hn6_1 hM6_1 => ?_))
        refine WO.nil ?_
        rw [Hp.up_up] at hM6_1
        replace hM6_1 : Models ro s6_1 ((H.up a0_0 (.row 0 [.int .i64 x])).up a6_0 (.row 0 [.int .i64 0])) := hM6_1
        have hE6 : Ext H ((H.up a0_0 (.row 0 [.int .i64 x])).up a6_0 (.row 0 [.int .i64 0])) := hE0.up fun ν o e => hne6_0 ν o (hE0 ν o e)
        have hne : a0_0 ≠ a6_0 := hne6_0 _ _ hx0
        have hx6 : ((H.up a0_0 (.row 0 [.int .i64 x])).up a6_0 (.row 0 [.int .i64 0])) a0_0 = some (.row 0 [.int .i64 x]) := Hp.up_ne hne hx0
        have hn6 : ((H.up a0_0 (.row 0 [.int .i64 x])).up a6_0 (.row 0 [.int .i64 0])) a6_0 = some (.row 0 [.int .i64 0]) := Hp.up_same
        have hold : ∀ ν o, H ν = some o → ν ≠ a0_0 ∧ ν ≠ a6_0 := fun ν o e => ⟨hne0_0 ν o e, hne6_0 ν o (hE0 ν o e)⟩
        generalize (H.up a0_0 (.row 0 [.int .i64 x])).up a6_0 (.row 0 [.int .i64 0]) = H6 at *
        refine WC.seq ?_
        refine WC.region ?_
        refine WO.cons (SV.moveV (by constructor) ?_) (by decide)
        refine WO.cons ?_ (by decide)
        refine SV.callM rfl rfl (edges_sp hX hM6_1 (hp.ext hE6) hb (by omega) hwide) ?_
        rintro ve s7 H7 hn7 hM7 ⟨L, hve, hpe, hse, hE7, hfe⟩
        have hLl : L.length ≤ 16384 := by rw [hpe.length_eq]; have := edgesM_len p; omega
        have hLok : ∀ e ∈ L, e.Ok ∧ e.y0 < e.y1 ∧ (e.by' = 1 ∨ e.by' = -1) := fun e he => edgesM_ok hwide e (hpe.mem_iff.mp he)
        have hLz : ∀ j, sumB (crossM L j) = 0 := fun j => by rw [sumB_perm (crossM_perm hpe j)]; exact closed j p
        have hcnt : ovR (64 * x) 64 (spansM SM L (64 * y) 64) = cellsM p x y := by rw [spans_cnt hE.perm hE.ord hLz, rowsC_perm hpe]; rfl
        have hbd := rowsC_bd (l := edgesM p) (j0 := 64 * y) (lo := 64 * x) (n := 64) 64
        have hspan := cntSpan (X := X) (ro := ro) (an := a6_0) (ax := a0_0) (e1 := 0) (e2 := 0) (x := x) (full := spansM SM L (64 * y) 64) hX hxb hne (spans_bd hE.perm hLok) (by rw [hcnt]; unfold cellsM; omega)
        refine WO.cons (SV.moveV (by constructor) ?_) (by decide)
        refine WO.cons (SV.mul64 rfl rfl (by omega) ?_) (by decide)
        refine WO.cons (SV.moveV (by constructor) ?_) (by decide)
        refine WO.cons (SV.mul64 rfl rfl (by omega) ?_) (by decide)
        refine WO.cons (SV.add64 rfl rfl (by omega) ?_) (by decide)
        refine WO.cons (SV.makeFunc ?_) (by decide)
        refine WO.cons ?_ (by decide)
        refine SV.callM rfl rfl (rows_sp (v := ve) (B := fun ν => ν = a6_0 ∨ ν = a0_0) (Iv := fun sp H => H a6_0 = some (.row 0 [.int .i64 (ovR (64 * x) 64 sp)]) ∧ H a0_0 = some (.row 0 [.int .i64 x])) (SM := SM) (j0 := 64 * y) (j1 := 64 * y + 64) hX hE hM7 hve hLl hLok hse hLz (by omega) (by omega) (by omega) (by rw [show (64 * y + 64 - 64 * y).toNat = 64 by omega]; exact hspan) ⟨hE7 _ _ hn6, hE7 _ _ hx6⟩ (fun μ e hB => by
          have := hfe μ e
          rcases hB with rfl | rfl
          · rw [hn6] at this; cases this
          · rw [hx6] at this; cases this)) ?_
        rintro v s8 H8 hn8 hM8 ⟨rfl, ⟨h81, h82⟩, hf8⟩
        rw [show (64 * y + 64 - 64 * y).toNat = 64 by omega, hcnt] at h81
        refine WO.nil ?_
        refine WC.seq ?_
        refine WC.region ?_
        refine WO.cons (SV.loadM (by assumption) rfl (by assumption) (by rfl) ?_) (by decide)
        refine WO.cons (SV.assignV (by constructor) ?_) (by decide)
        refine WO.cons (SV.assignV (by constructor) ?_) (by decide)
        refine WO.nil ?_
        refine WC.ret ?_
        refine fin_two (e := .ret) (v := .int .i64 _) (w := .int .i64 _) rfl trivial rfl rfl (by omega) hM8 ⟨by unfold countM; rw [if_neg (fun h2 => h2 hc), if_pos ⟨hsx, hsy⟩], fun ν o e => hf8 ν o (fun hB => ?_) (hE7 ν o (hE6 ν o e))⟩
        rcases hB with h | h
        · exact (hold ν o e).2 h
        · exact (hold ν o e).1 h
  · have hd : (decide (checkM p ≠ 0)) = true := decide_eq_true hc
    refine WC.condT rfl (by assumption) (WC.seq ?_)
    refine WC.region ?_
    refine WO.cons (SV.moveV (by constructor) ?_) (by decide)
    refine WO.cons (SV.assignV (by constructor) ?_) (by decide)
    refine WO.cons (SV.assignV (by constructor) ?_) (by decide)
    refine WO.nil ?_
    refine WC.ret ?_
    exact fin_two (e := .ret) (v := .int .i64 _) (w := .int .i64 _) rfl trivial rfl rfl (by omega) hM1 ⟨by unfold countM; rw [if_pos hc], hE0⟩
end Go.Proofs.Ytmlplblhabdbpaa
