/- The law LayoutNames: its function returns true from every world, and what was there reads as before: no condition. -/
import Derived.Test.YtnpkjkingaachaaGreatLayoutNamesRunbox
import Derived.Test.YtnpkjkingaachaaGreatLayoutNamesRunload
import Derived.Test.YtnpkjkingaachaaGreatLayoutNamesRunline
import Derived.Test.YtnpkjkingaachaaGreatLayoutNamesRun
import Derived.Test.YtnpkjkingaachaaGreatLayoutNamesClosed
import Derived.Test.YtnpkjkingaachaaGreatEv26
import Derived.Test.YtnpkjkingaachaaGreatRows
import Derived.ProofKit
namespace Go.Proofs.YtnpkjkingaachaaGreat
open Go.ChangeShapes Go.WideShapes Go.ChangeAt Go.RowKit

theorem Tryz.own : ownKnob Tryz.prog.godebug = none := by kernel_rfl
theorem Tryz.names : Ab.namesOk Tryz.prog = true := by kernel_rfl

namespace Pieces
open Go.Ab
theorem ok_box : e_box.Ok Tryz.prog 12 := ent_ok Tryz.names (M := []) (by intro e he; cases he) run_box
theorem ok_load : e_load.Ok Tryz.prog 12 := ent_ok Tryz.names (M := []) (by intro e he; cases he) run_load
theorem ok_line : e_line.Ok Tryz.prog 12 := ent_ok Tryz.names (M := []) (by intro e he; cases he) run_line

theorem ok_top : ∀ e ∈ [e_box, e_load, e_line], e.Ok Tryz.prog 12 := by
  intro e he
  simp only [List.mem_cons, List.not_mem_nil, or_false] at he
  rcases he with rfl | rfl | rfl
  · exact ok_box
  · exact ok_load
  · exact ok_line
end Pieces

set_option maxRecDepth 100000 in
theorem layoutNames_lifted (os : Os) (started : os.Started) (H : Type) (enc : TypeId × Value → H) :
    ReturnsInHanded {} Tryz.checked os 3 .any (Rows.layoutNamesSpec.pre6 enc Tryz.prog Tryz.f3 Rows.layoutNamesRow.domain false) (Rows.layoutNamesSpec.post enc Tryz.prog Tryz.f3 false true false false) := by
  refine returnsInHanded_of_change (C := Tryz.checked) Tryz.own started (by kernel_rfl) Tryz.func3
    (ChangeSpec.witness6 (enc := enc) (C := Tryz.checked) false ⟨#[], #[], []⟩ 8 (by kernel_rfl) (by kernel_rfl) (by kernel_rfl) (by kernel_rfl)) ?_
  intro W base args ds gs before hval0 hW hcnd _
  have hW' := hW
  obtain ⟨p, q, hA0, hV, rfl, hfz, hnd⟩ := hW
  have hA : DataW.TrodAll enc Tryz.prog W 0 (fun _ => true) true Tryz.f3.params.toList args.toList ds p := hA0
  rw [Tryz.params3] at hA
  obtain ⟨rfl, rfl, rfl⟩ := trodAll_none hA
  obtain ⟨rfl, rfl⟩ := trodVars_none hV
  clear hA0 hval0
  simp only [List.append_nil] at hW'
  refine (Ab.calls_true_in_pieces Tryz.names Pieces.ok_top Pieces.run_all W).mono fun e W' ⟨he, hw⟩ => ?_
  subst he
  exact ⟨_, rfl, ⟨[], [], [], [], [], [], hW', trodAll_mk1 (shut_bool Tryz.underlying4 true), trodAll_mk0, rfl, hw.frame _, fun h => by cases h⟩⟩

theorem layoutNames_holds : Rows.LayoutNamesSaid :=
  OpenClaim.holds_of_wide 3 Tryz.f3 rfl rfl rfl rfl rfl rfl rfl ⟨rfl, rfl, rfl, rfl, rfl⟩ rfl rfl rfl rfl rfl (by kernel_rfl) Tryz.func3 layoutNames_closed
    (of_decide_eq_true (by kernel_rfl)) (by unfold Func.isWrapper; first | (rw [if_pos (by decide +kernel)]; kernel_rfl) | (rw [if_neg (by decide +kernel)]; exact ⟨rfl, rfl⟩))
    (fun os started H enc _ => layoutNames_lifted os started H enc)

#print axioms layoutNames_holds
end Go.Proofs.YtnpkjkingaachaaGreat
