/- A part of the proof: rules for walking code over the evaluator, and what the functions that were walked come to: no condition but those that each theorem states. -/
import Derived.Test.YthkklpegjcnjoaaPB
import Derived.Test.YthkklpegjcnjoaaTX
import Derived.Test.YthkklpegjcnjoaaLgB
import Derived.Test.YthkklpegjcnjoaaRows
import Derived.WalkKit
import Derived.ProofKit
import Derived.OpenShut
import Derived.ShutString
import Derived.ChangeOld
import Derived.Below
import Derived.SizedLaws
set_option linter.unusedVariables false
set_option linter.unusedSimpArgs false
namespace Go.Proofs.Ythkklpegjcnjoaa.bidiParts
open Go.ChangeShapes Go.WideShapes Go.ChangeAt Go.RowKit
set_option linter.unusedVariables false
theorem own : ownKnob Try.prog.godebug = none := by kernel_rfl
theorem laidOut : laidOutB Try.prog = true := by kernel_rfl

/-- A handed slice's address has no spot, and a block lies there. -/
theorem spot_of {P : Program} {W : World} {base : Nat} {t e : TypeId} {a : Option Addr} {len cap : Nat} (ht : P.underlying t = some (.slice e)) (h : Value.okWide P W .any base t (.slice a len cap)) :
    ∀ x, a = some x → x.spot = none ∧ ∃ cs t fr, W.heap[x.block]? = some (.cells cs t fr) := by
  rintro x rfl
  simp only [Value.okWide, ht, Cell.okWide, Cell.ok, World.has] at h
  obtain ⟨_, _, _, hs, row, cells, hsh, _⟩ := h
  refine ⟨hs, ?_⟩
  unfold World.shape? at hsh
  split at hsh
  · rename_i c e f hb; exact ⟨c, e, f, hb⟩
  · cases hsh

theorem look_sep : Ab.eqI (lookF 8233).2.1 10 = true := by kernel_rfl
theorem yc_LB (c : Int) : Yc.LB c = (lookF c).2.1 := by simp only [Yc]
theorem of_eqI {a b : Int} (h : Ab.eqI a b = true) : a = b := by rw [Ab.eqI_eq] at h; exact eq_of_beq h
theorem sep' (c : Int) (h : Ab.eqI (lookF c).2.1 10 = true) : Yc.LB c = 10 := (yc_LB c).trans (of_eqI h)
theorem sep : Yc.LB 8233 = 10 := sep' 8233 look_sep

/-- A handed slice of whole numbers, as the logic wants it. -/
theorem handed_of {W : World} {a : Option Addr} {len cap : Nat} {zs : List Int} (hl : len ≤ zs.length) (hn : a = none → len = 0 ∧ cap = 0) (hs : ∀ x, a = some x → x.spot = none ∧ ∃ cs t fr, W.heap[x.block]? = some (.cells cs t fr))
    (hc : ∀ x, a = some x → ∀ i, i < zs.length → W.cell? (x.add i) = some (.int .i64 (zs.getD i 0))) : Ab.Handed W a len cap (zs.take len) := by
  have hlen : (zs.take len).length = len := by rw [List.length_take]; omega
  exact ⟨hlen, hn, hs, fun x hx i v hv => by
    have hi := (List.getElem?_eq_some_iff.mp hv).1
    rw [hlen] at hi
    rw [hc x hx i (by omega)]
    rw [List.getElem?_take, if_pos hi] at hv
    rw [List.getD_eq_getElem?_getD, hv]; rfl⟩

theorem walk {W : World} {a b : Option Addr} {len0 cap0 len1 cap1 : Nat} {Ca Cb : List Int} (ha : Ab.Handed W a len0 cap0 Ca) (hb : Ab.Handed W b len1 cap1 Cb) (right : Bool) :
    Calls Try.prog 5 #[.slice a len0 cap0, .slice b len1 cap1, .bool right] W fun e W' => e = .returned (.bool true) ∧ Below W.heap.size W W' := by
  obtain ⟨D, hD0, hD1⟩ : ∃ D : Nat → Option Ab.HRow, D 0 = Ab.Handed.row (W := W) (a := a) Ca ∧ D 1 = Ab.Handed.row (W := W) (a := b) Cb := ⟨fun ν => if ν = 0 then Ab.Handed.row (W := W) (a := a) Ca else Ab.Handed.row (W := W) (a := b) Cb, rfl, rfl⟩
  have hD : ∀ ν d, ν < 2 → D ν = some d → d.Ok W := fun ν d hν hd => by
    rcases (show ν = 0 ∨ ν = 1 by omega) with rfl | rfl
    · rw [hD0] at hd; exact (ha.ok hd).1
    · rw [hD1] at hd; exact (hb.ok hd).1
  refine Ab.calls_of_rows (k := 2) tbl_names hD (.cons (ha.vr (by omega) hD0) (.cons (hb.vr (by omega) hD1) (.cons (.bool right) .nil))) (Xc 2) (xc_calls _ 2) ?_
  have la := ha.long
  have lb := hb.long
  have sa := fun H' hH => ha.src (P := Try.prog) (ν := 0) (k := 2) (by omega) hD0 (H := H') hH
  have sb := fun H' hH => hb.src (P := Try.prog) (ν := 1) (k := 2) (by omega) hD1 (H := H') hH
  subst la lb
  exact parts_sp (xc_ok 2) sep (Ab.hModelsN fun ν d hν hd => (hD ν d hν hd).fit) sa sb

set_option maxRecDepth 100000 in
/-- What is known of a slice of whole numbers that is handed in. -/
theorem opened {H : Type} {enc : TypeId × Value → H} {W : World} {base : Nat} {v : Value} {d : DataW H} {p : List MemPlace} (hv : Value.okWide Try.prog W .any base 23 v) (h : DataW.Trod enc Try.prog W 0 (fun _ => true) true 23 v d p) :
    ∃ a len cap C, v = .slice a len cap ∧ Ab.Handed W a len cap C := by
  obtain ⟨a, len, cap, rfl⟩ := okWide_slice Try.underlying23 hv
  refine ⟨a, len, cap, ?_⟩
  have hs := spot_of Try.underlying23 hv
  obtain ⟨fuel, hf⟩ := h
  rcases open_ints Try.underlying23 Try.underlying3 (by kernel_rfl) hf with ⟨hcs, _⟩ | ⟨x, l, c, zs, hcs, _, hl, hm, hz, _, hcell, hwz⟩
  · simp [Value.cells] at hcs
    obtain ⟨rfl, rfl, rfl⟩ := hcs
    exact ⟨_, rfl, handed_of (zs := []) (Nat.le_refl _) (fun _ => ⟨rfl, rfl⟩) hs (fun x h => by cases h)⟩
  · simp [Value.cells] at hcs
    obtain ⟨rfl, rfl, rfl⟩ := hcs
    have hz : zs.length = cap := by simpa using hz
    exact ⟨_, rfl, handed_of (zs := zs) (by omega) (fun h => by cases h) hs (fun y h => by cases h; exact hcell)⟩

set_option maxRecDepth 100000 in
theorem lifted (os : Os) (started : os.Started) (H : Type) (enc : TypeId × Value → H) :
    ReturnsInHanded {} Try.checked os 5 .any (Rows.bidiPartsSpec.pre6 enc Try.prog Try.f5 Rows.bidiPartsRow.domain false) (Rows.bidiPartsSpec.post enc Try.prog Try.f5 false true false false) := by
  refine returnsInHanded_of_change_sized (C := Try.checked) own started (by kernel_rfl) Try.func5
    (ChangeSpec.witness6 (enc := enc) (C := Try.checked) false ⟨#[], #[.slice none 0 0, .slice none 0 0, .bool false], []⟩ 8 (by kernel_rfl) (by kernel_rfl) (by kernel_rfl) (by kernel_rfl)) ?_
  intro W base args ds gs before hval0 hW hcnd hsz0 _
  have hval : ∀ (j : Nat) t v, Try.f5.params[j]? = some t → args[j]? = some v → Value.okWide Try.prog W .any base t v := hval0
  have hW' := hW
  obtain ⟨p, q, hA0, hV, rfl, hfz, hnd⟩ := hW
  have hA : DataW.TrodAll enc Try.prog W 0 (fun _ => true) true Try.f5.params.toList args.toList ds p := hA0
  rw [Try.params5] at hA hval
  obtain ⟨v0, vs0, d0, ds0, p0, q0, hargs, rfl, rfl, h0, r0⟩ := trodAll_cons hA
  obtain ⟨v1, vs1, d1, ds1, p1, q1, rfl, rfl, rfl, h1, r1⟩ := trodAll_cons r0
  obtain ⟨v2, vs2, d2, ds2, p2, q2, rfl, rfl, rfl, h2, r2⟩ := trodAll_cons r1
  obtain ⟨rfl, rfl, rfl⟩ := trodAll_nil r2
  obtain rfl : args = #[v0, v1, v2] := by cases args; simp_all
  obtain ⟨rfl, rfl⟩ := trodVars_none hV
  obtain ⟨a0, len0, cap0, C0, rfl, hd0⟩ := opened (hval 0 23 v0 rfl rfl) h0
  obtain ⟨a1, len1, cap1, C1, rfl, hd1⟩ := opened (hval 1 23 v1 rfl rfl) h1
  obtain ⟨right, rfl⟩ : ∃ b, v2 = .bool b := by
    have h := hval 2 4 v2 rfl rfl
    simp only [Value.okWide, Try.underlying4, Cell.okWide, Cell.ok] at h
    cases v2 <;> simp at h
    exact ⟨_, rfl⟩
  have lt0 : ∀ x ∈ p0, x.block < W.heap.size := by obtain ⟨m, hm⟩ := h0; exact DataW.trod_lt m _ _ _ hm
  have lt1 : ∀ x ∈ p1, x.block < W.heap.size := by obtain ⟨m, hm⟩ := h1; exact DataW.trod_lt m _ _ _ hm
  have lt2 : ∀ x ∈ p2, x.block < W.heap.size := by obtain ⟨m, hm⟩ := h2; exact DataW.trod_lt m _ _ _ hm
  clear hA0 hval0 hsz0
  refine (walk hd0 hd1 right).mono fun e W' ⟨he, bel⟩ => ?_
  subst he
  exact ⟨_, rfl, _, _, _, [], _, [], hW', trodAll_mk1 (shut_bool Try.underlying4 _), (trodAll_cons_mk (Below.trod laidOut (by kernel_rfl) (of_decide_eq_true (by kernel_rfl)) h0 bel lt0) (trodAll_cons_mk (Below.trod laidOut (by kernel_rfl) (of_decide_eq_true (by kernel_rfl)) h1 bel lt1) (trodAll_cons_mk (Below.trod laidOut (by kernel_rfl) (of_decide_eq_true (by kernel_rfl)) h2 bel lt2) trodAll_mk0))), rfl, bel.frame _, fun h => by cases h⟩
theorem over : Rows.bidiPartsRow.holds Try.pinned (OpenSpec.ofChange Rows.bidiPartsSpec) :=
  OpenClaim.holds_of_wide 5 Try.f5 rfl rfl rfl rfl rfl rfl rfl ⟨rfl, rfl, rfl, rfl, rfl⟩ rfl rfl rfl rfl rfl (by kernel_rfl) Try.func5 (by kernel_rfl)
    (of_decide_eq_true (by kernel_rfl)) (by unfold Func.isWrapper; first | (rw [if_pos (by decide +kernel)]; kernel_rfl) | (rw [if_neg (by decide +kernel)]; exact ⟨rfl, rfl⟩))
    (fun os started H enc _ => lifted os started H enc)
theorem proved : Rows.BidiPartsSaid := over
#print axioms proved
end Go.Proofs.Ythkklpegjcnjoaa.bidiParts
namespace Go.Proofs.Ythkklpegjcnjoaa
/-- The row, under a short name, for the claim. -/
theorem bidiParts_holds : Rows.BidiPartsSaid := bidiParts.proved
end Go.Proofs.Ythkklpegjcnjoaa
