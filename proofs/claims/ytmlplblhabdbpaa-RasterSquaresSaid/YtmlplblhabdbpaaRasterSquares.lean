/- The law RasterSquares: its function returns true from every world, and what was there reads as before. No condition. -/
import Derived.Test.YtmlplblhabdbpaaRows
import Derived.Test.YtmlplblhabdbpaaPureRasterSquares
import Derived.WalkKit
import Derived.ProofKit
import Derived.OpenShut
import Derived.ChangeOld
import Derived.Below
import Derived.WideKeyArr2
import Derived.Conc.Holds
import Derived.Leaving
namespace Go.Proofs.Ytmlplblhabdbpaa.rasterSquares
open Go.ChangeShapes Go.WideShapes Go.ChangeAt Go.RowKit Go.Deep
open Go.Proofs.Ytmlplblhabdbpaa.PRasterSquares
set_option linter.unusedVariables false
theorem own : ownKnob Try.prog.godebug = none := by kernel_rfl
theorem laidOut : laidOutB Try.prog = true := by kernel_rfl
theorem arr43 : Go.WideMaps.ArrKey Try.prog 43 3 2 := ⟨Try.underlying43, by kernel_rfl, by kernel_rfl, by kernel_rfl⟩
/-- A call that ends with nobody beside it leaves nobody who could act later. -/
theorem leaving_of_handed {a : Assume} {C : Checked} {os : Os} {f : FuncId} {r : Reach} {Pre : World → Array Value → Prop} {Post : World → Array Value → Value → World → Prop} (h : ReturnsInHanded a C os f r Pre Post) :
    ReturnsInLeavingWide a C os f r Pre Post := fun enter => by
  obtain ⟨h1, h2, h3, h4, h5⟩ := h enter
  refine ⟨h1, h2, h3, h4, fun w tape i hfit => ?_⟩
  obtain ⟨n, v, w', a1, a2, a3, a4, ⟨j, last, b1, b2, b3, b4, b5⟩, a6⟩ := h5 w tape i hfit
  exact ⟨n, v, w', a1, a2, a3, a4, ⟨j, last, b1, b2, b4, onlyLeaving_of_quiet b3, b5⟩, a6⟩
set_option maxRecDepth 100000 in
theorem lifted (os : Os) (started : os.Started) (H : Type) (enc : TypeId × Value → H) :
    ReturnsInHanded {} Try.checked os 7 .any (Rows.rasterSquaresSpec.pre6 enc Try.prog Try.f7 Rows.rasterSquaresRow.domain false) (Rows.rasterSquaresSpec.post enc Try.prog Try.f7 false true false false) := by
  refine returnsInHanded_of_change (C := Try.checked) own started (by kernel_rfl) Try.func7
    (ChangeSpec.witness6 (enc := enc) (C := Try.checked) false ⟨#[], #[.agg #[.int .i64 0, .int .i64 0], .agg #[.int .i64 0, .int .i64 0], .agg #[.int .i64 0, .int .i64 0]], []⟩ 8 (by kernel_rfl) (by kernel_rfl) (by kernel_rfl) (by kernel_rfl)) ?_
  intro W base args ds gs before hval0 hW hcnd _
  have hval : ∀ (j : Nat) t v, Try.f7.params[j]? = some t → args[j]? = some v → Value.okWide Try.prog W .any base t v := hval0
  have hW' := hW
  obtain ⟨p, q, hA0, hV, rfl, hfz, hnd⟩ := hW
  have hA : DataW.TrodAll enc Try.prog W 0 (fun _ => true) true Try.f7.params.toList args.toList ds p := hA0
  rw [Try.params7] at hA hval
  obtain ⟨v0, vs0, d0, ds0, p0, q0, hargs, rfl, rfl, h0, r0⟩ := trodAll_cons hA
  obtain ⟨v1, vs1, d1, ds1, p1, q1, rfl, rfl, rfl, h1, r1⟩ := trodAll_cons r0
  obtain ⟨v2, vs2, d2, ds2, p2, q2, rfl, rfl, rfl, h2, r2⟩ := trodAll_cons r1
  obtain ⟨rfl, rfl, rfl⟩ := trodAll_nil r2
  obtain rfl : args = #[v0, v1, v2] := by cases args; simp_all
  obtain ⟨rfl, rfl⟩ := trodVars_none hV
  have k0 := h0
  have k1 := h1
  have k2 := h2
  have lt0 : ∀ x ∈ p0, x.block < W.heap.size := by obtain ⟨m, hm⟩ := k0; exact DataW.trod_lt m _ _ _ hm
  have lt1 : ∀ x ∈ p1, x.block < W.heap.size := by obtain ⟨m, hm⟩ := k1; exact DataW.trod_lt m _ _ _ hm
  have lt2 : ∀ x ∈ p2, x.block < W.heap.size := by obtain ⟨m, hm⟩ := k2; exact DataW.trod_lt m _ _ _ hm
  obtain ⟨a0, b0, rfl, _⟩ := Go.WideMaps.open_pair arr43 Try.underlying3 (hval 0 43 v0 rfl rfl) h0
  obtain ⟨a1, b1, rfl, _⟩ := Go.WideMaps.open_pair arr43 Try.underlying3 (hval 1 43 v1 rfl rfl) h1
  obtain ⟨a2, b2, rfl, _⟩ := Go.WideMaps.open_pair arr43 Try.underlying3 (hval 2 43 v2 rfl rfl) h2
  clear hA0 hval0
  obtain ⟨k, hk⟩ := Sq.RasterSquares a0 b0 a1 b1 a2 b2
  refine (seriflaw21_RasterSquares.calls k a0 b0 a1 b1 a2 b2 true W hk).mono fun e W' ⟨he, bel⟩ => ?_
  subst he
  exact ⟨_, rfl, _, _, _, [], _, [], hW', trodAll_mk1 (shut_bool Try.underlying4 _), (trodAll_cons_mk (Below.trod laidOut (by kernel_rfl) (of_decide_eq_true (by kernel_rfl)) k0 bel lt0) (trodAll_cons_mk (Below.trod laidOut (by kernel_rfl) (of_decide_eq_true (by kernel_rfl)) k1 bel lt1) (trodAll_cons_mk (Below.trod laidOut (by kernel_rfl) (of_decide_eq_true (by kernel_rfl)) k2 bel lt2) trodAll_mk0))), rfl, bel.frame _, fun h => by cases h⟩
theorem proved : Rows.RasterSquaresSaid :=
  OpenClaim.holds_of_wide_leaving 7 Try.f7 rfl rfl rfl rfl rfl rfl rfl ⟨rfl, rfl, rfl, rfl, rfl⟩ rfl rfl rfl rfl rfl (by kernel_rfl) Try.func7 (by kernel_rfl)
    (of_decide_eq_true (by kernel_rfl)) (by unfold Func.isWrapper; first | (rw [if_pos (by decide +kernel)]; kernel_rfl) | (rw [if_neg (by decide +kernel)]; exact ⟨rfl, rfl⟩))
    (fun os started H enc _ => leaving_of_handed (lifted os started H enc))
#print axioms proved
end Go.Proofs.Ytmlplblhabdbpaa.rasterSquares
namespace Go.Proofs.Ytmlplblhabdbpaa
/-- The row, under a short name, for the claim. -/
theorem rasterSquares_holds : Rows.RasterSquaresSaid := rasterSquares.proved
end Go.Proofs.Ytmlplblhabdbpaa
