/- A part of the proof: rules for walking code over the evaluator, and what the functions that were walked come to: no condition but those that each theorem states. -/
import Derived.Test.YthkklpegjcnjoaaVB
import Derived.Test.YthkklpegjcnjoaaTX
import Derived.Test.YthkklpegjcnjoaaWSized
import Derived.Test.YthkklpegjcnjoaaRows
import Derived.WalkKit
import Derived.ProofKit
import Derived.OpenShut
import Derived.ShutString
import Derived.ChangeOld
import Derived.Below
import Derived.SizedLaws
set_option linter.unusedVariables false
set_option linter.unusedSimpArgs false
namespace Go.Proofs.Ythkklpegjcnjoaa.runsVisual
open Go.ChangeShapes Go.WideShapes Go.ChangeAt Go.RowKit
set_option linter.unusedVariables false
theorem own : ownKnob Try.prog.godebug = none := by kernel_rfl
theorem laidOut : laidOutB Try.prog = true := by kernel_rfl

/-- A handed slice's address has no spot, and a block lies there. -/
theorem spot_of {P : Program} {W : World} {base : Nat} {t e : TypeId} {a : Option Addr} {len cap : Nat} (ht : P.underlying t = some (.slice e)) (h : Value.okWide P W .any base t (.slice a len cap)) :
    ∀ x, a = some x → x.spot = none ∧ ∃ cs t fr, W.heap[x.block]? = some (.cells cs t fr) := by
  rintro x rfl
  simp only [Value.okWide, ht, Cell.okWide, Cell.ok, World.has] at h
  obtain ⟨_, _, _, hs, row, cells, hsh, _⟩ := h
  refine ⟨hs, ?_⟩
  unfold World.shape? at hsh
  split at hsh
  · rename_i c e f hb; exact ⟨c, e, f, hb⟩
  · cases hsh

theorem walk {W : World} {a : Option Addr} {len cap : Nat} {b : Int} {zs : List Int} (hl : len ≤ zs.length) (hn : a = none → len = 0 ∧ cap = 0) (hs : ∀ x, a = some x → x.spot = none ∧ ∃ cs t fr, W.heap[x.block]? = some (.cells cs t fr))
    (hc : ∀ x, a = some x → ∀ i, i < zs.length → W.cell? (x.add i) = some (.int .i64 (zs.getD i 0))) (hbig : len * 8 ≤ 140737488351232) :
    Calls Try.prog 12 #[.slice a len cap, .int .i64 b] W fun e W' => e = .returned (.bool true) ∧ Below W.heap.size W W' := by
  have hlen : (zs.take len).length = len := by rw [List.length_take]; omega
  have hW : Ab.Handed W a len cap (zs.take len) := ⟨hlen, hn, hs, fun x hx i v hv => by
    have hi := (List.getElem?_eq_some_iff.mp hv).1
    rw [hlen] at hi
    rw [hc x hx i (by omega)]
    rw [List.getElem?_take, if_pos hi] at hv
    rw [List.getD_eq_getElem?_getD, hv]; rfl⟩
  refine Ab.calls_of_handed (more := [.int .i64 b]) tbl_names hW (fun v hv => by
    simp only [List.mem_cons, List.not_mem_nil, or_false] at hv
    subst hv; rfl) (Xc 1) (xc_calls _ 1) fun s H A c hM hsrc => ?_
  generalize hC : zs.take len = C at hlen hsrc
  subst hlen
  exact visual_law (xc_ok 1) hM hsrc hbig

set_option maxRecDepth 100000 in
theorem lifted (os : Os) (started : os.Started) (H : Type) (enc : TypeId × Value → H) :
    ReturnsInHanded {} Try.checked os 12 .any (Rows.runsVisualSpec.pre6 enc Try.prog Try.f12 Rows.runsVisualRow.domain false) (Rows.runsVisualSpec.post enc Try.prog Try.f12 false true false false) := by
  refine returnsInHanded_of_change_sized (C := Try.checked) own started (by kernel_rfl) Try.func12
    (ChangeSpec.witness6 (enc := enc) (C := Try.checked) false ⟨#[], #[.slice none 0 0, .int .i64 0], []⟩ 8 (by kernel_rfl) (by kernel_rfl) (by kernel_rfl) (by kernel_rfl)) ?_
  intro W base args ds gs before hval0 hW hcnd hsz0 _
  have hsz : (DataW.weightsEach Try.prog (Try.f12.params.toList ++ Rows.runsVisualSpec.plain.varTypes Try.prog) (ds ++ gs)).all (· ≤ reachBytes) = true := hsz0
  have hval : ∀ (j : Nat) t v, Try.f12.params[j]? = some t → args[j]? = some v → Value.okWide Try.prog W .any base t v := hval0
  have hW' := hW
  obtain ⟨p, q, hA0, hV, rfl, hfz, hnd⟩ := hW
  have hA : DataW.TrodAll enc Try.prog W 0 (fun _ => true) true Try.f12.params.toList args.toList ds p := hA0
  rw [Try.params12] at hA hval hsz
  obtain ⟨v0, vs0, d0, ds0, p0, q0, hargs, rfl, rfl, h0, r0⟩ := trodAll_cons hA
  obtain ⟨v1, vs1, d1, ds1, p1, q1, rfl, rfl, rfl, h1, r1⟩ := trodAll_cons r0
  obtain ⟨rfl, rfl, rfl⟩ := trodAll_nil r1
  obtain rfl : args = #[v0, v1] := by cases args; simp_all
  obtain ⟨rfl, rfl⟩ := trodVars_none hV
  obtain ⟨a0, len0, cap0, rfl⟩ := okWide_slice Try.underlying23 (hval 0 23 v0 rfl rfl)
  obtain ⟨b, rfl⟩ : ∃ b, v1 = .int .i64 b := by
    have h := hval 1 3 v1 rfl rfl
    simp only [Value.okWide, Try.underlying3, Cell.okWide, Cell.ok] at h
    cases v1 <;> simp at h
    exact ⟨_, by rw [h.1]⟩
  have k0 := h0
  have k1 := h1
  have lt0 : ∀ x ∈ p0, x.block < W.heap.size := by obtain ⟨m, hm⟩ := k0; exact DataW.trod_lt m _ _ _ hm
  have lt1 : ∀ x ∈ p1, x.block < W.heap.size := by obtain ⟨m, hm⟩ := k1; exact DataW.trod_lt m _ _ _ hm
  obtain ⟨z0, hl0, hn0, hc0⟩ : ∃ zs : List Int, len0 ≤ zs.length ∧ (a0 = none → len0 = 0 ∧ cap0 = 0) ∧ (∀ x, a0 = some x → ∀ i, i < zs.length → W.cell? (x.add i) = some (.int .i64 (zs.getD i 0))) := by
    obtain ⟨fuel, hf⟩ := h0
    rcases open_ints Try.underlying23 Try.underlying3 (by kernel_rfl) hf with ⟨hcs, _⟩ | ⟨x, l, c, zs, hcs, _, hl, hm, hz, _, hcell, hwz⟩
    · simp [Value.cells] at hcs
      obtain ⟨rfl, rfl, rfl⟩ := hcs
      exact ⟨[], Nat.le_refl _, fun _ => ⟨rfl, rfl⟩, fun x h => by cases h⟩
    · simp [Value.cells] at hcs
      obtain ⟨rfl, rfl, rfl⟩ := hcs
      have hz : zs.length = cap0 := by simpa using hz
      exact ⟨zs, by omega, (fun h => by cases h), (fun y h => by cases h; exact hcell)⟩
  have y0 : len0 * 8 ≤ 140737488351232 := Go.Proofs.YthkklpegjcnjoaaW.PrintWords.sized_ints hsz (j := 0) (t := 23) rfl rfl Try.underlying23 Try.underlying3 (by kernel_rfl) (by kernel_rfl) h0
  have hs0 := spot_of Try.underlying23 (hval 0 23 _ rfl rfl)
  clear hA0 hval0 hsz0 hsz
  refine (walk hl0 hn0 hs0 hc0 y0).mono fun e W' ⟨he, bel⟩ => ?_
  subst he
  exact ⟨_, rfl, _, _, _, [], _, [], hW', trodAll_mk1 (shut_bool Try.underlying4 _), (trodAll_cons_mk (Below.trod laidOut (by kernel_rfl) (of_decide_eq_true (by kernel_rfl)) k0 bel lt0) (trodAll_cons_mk (Below.trod laidOut (by kernel_rfl) (of_decide_eq_true (by kernel_rfl)) k1 bel lt1) trodAll_mk0)), rfl, bel.frame _, fun h => by cases h⟩
theorem over : Rows.runsVisualRow.holds Try.pinned (OpenSpec.ofChange Rows.runsVisualSpec) :=
  OpenClaim.holds_of_wide 12 Try.f12 rfl rfl rfl rfl rfl rfl rfl ⟨rfl, rfl, rfl, rfl, rfl⟩ rfl rfl rfl rfl rfl (by kernel_rfl) Try.func12 (by kernel_rfl)
    (of_decide_eq_true (by kernel_rfl)) (by unfold Func.isWrapper; first | (rw [if_pos (by decide +kernel)]; kernel_rfl) | (rw [if_neg (by decide +kernel)]; exact ⟨rfl, rfl⟩))
    (fun os started H enc _ => lifted os started H enc)
theorem proved : Rows.RunsVisualSaid := over
#print axioms proved
end Go.Proofs.Ythkklpegjcnjoaa.runsVisual
namespace Go.Proofs.Ythkklpegjcnjoaa
/-- The row, under a short name, for the claim. -/
theorem runsVisual_holds : Rows.RunsVisualSaid := runsVisual.proved
end Go.Proofs.Ythkklpegjcnjoaa
