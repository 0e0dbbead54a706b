/- The law RasterNames: its function returns true from every world, and what was there reads as before: no condition. -/
import Derived.Test.YtmlplblhabdbpaaRasterNamesRun
import Derived.Test.YtmlplblhabdbpaaEv24
import Derived.Test.YtmlplblhabdbpaaRows
import Derived.ProofKit
import Derived.Conc.Holds
import Derived.Leaving
namespace Go.Proofs.Ytmlplblhabdbpaa
open Go.ChangeShapes Go.WideShapes Go.ChangeAt Go.RowKit

theorem Try.own : ownKnob Try.prog.godebug = none := by kernel_rfl
theorem Try.names : Ab.namesOk Try.prog = true := by kernel_rfl

/-- A call that ends with nobody beside it leaves nobody who could act later. -/
theorem leaving_of_handed {a : Assume} {C : Checked} {os : Os} {f : FuncId} {r : Reach} {Pre : World → Array Value → Prop} {Post : World → Array Value → Value → World → Prop} (h : ReturnsInHanded a C os f r Pre Post) :
    ReturnsInLeavingWide a C os f r Pre Post := fun enter => by
  obtain ⟨h1, h2, h3, h4, h5⟩ := h enter
  refine ⟨h1, h2, h3, h4, fun w tape i hfit => ?_⟩
  obtain ⟨n, v, w', a1, a2, a3, a4, ⟨j, last, b1, b2, b3, b4, b5⟩, a6⟩ := h5 w tape i hfit
  exact ⟨n, v, w', a1, a2, a3, a4, ⟨j, last, b1, b2, b4, onlyLeaving_of_quiet b3, b5⟩, a6⟩

set_option maxRecDepth 100000 in
theorem rasterNames_lifted (os : Os) (started : os.Started) (H : Type) (enc : TypeId × Value → H) :
    ReturnsInHanded {} Try.checked os 3 .any (Rows.rasterNamesSpec.pre6 enc Try.prog Try.f3 Rows.rasterNamesRow.domain false) (Rows.rasterNamesSpec.post enc Try.prog Try.f3 false true false false) := by
  refine returnsInHanded_of_change (C := Try.checked) Try.own started (by kernel_rfl) Try.func3
    (ChangeSpec.witness6 (enc := enc) (C := Try.checked) false ⟨#[], #[], []⟩ 8 (by kernel_rfl) (by kernel_rfl) (by kernel_rfl) (by kernel_rfl)) ?_
  intro W base args ds gs before hval0 hW hcnd _
  have hW' := hW
  obtain ⟨p, q, hA0, hV, rfl, hfz, hnd⟩ := hW
  have hA : DataW.TrodAll enc Try.prog W 0 (fun _ => true) true Try.f3.params.toList args.toList ds p := hA0
  rw [Try.params3] at hA
  obtain ⟨rfl, rfl, rfl⟩ := trodAll_none hA
  obtain ⟨rfl, rfl⟩ := trodVars_none hV
  clear hA0 hval0
  simp only [List.append_nil] at hW'
  refine (Ab.calls_true Try.names rasterNames_run W).mono fun e W' ⟨he, hw⟩ => ?_
  subst he
  exact ⟨_, rfl, ⟨[], [], [], [], [], [], hW', trodAll_mk1 (shut_bool Try.underlying4 true), trodAll_mk0, rfl, hw.frame _, fun h => by cases h⟩⟩

theorem rasterNames_holds : Rows.RasterNamesSaid :=
  OpenClaim.holds_of_wide_leaving 3 Try.f3 rfl rfl rfl rfl rfl rfl rfl ⟨rfl, rfl, rfl, rfl, rfl⟩ rfl rfl rfl rfl rfl (by kernel_rfl) Try.func3 (by kernel_rfl)
    (of_decide_eq_true (by kernel_rfl)) (by unfold Func.isWrapper; first | (rw [if_pos (by decide +kernel)]; kernel_rfl) | (rw [if_neg (by decide +kernel)]; exact ⟨rfl, rfl⟩))
    (fun os started H enc _ => leaving_of_handed (rasterNames_lifted os started H enc))

#print axioms rasterNames_holds
end Go.Proofs.Ytmlplblhabdbpaa
