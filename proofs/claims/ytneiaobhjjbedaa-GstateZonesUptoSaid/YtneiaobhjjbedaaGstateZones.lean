/- The law GstateZones, where what it reads is of bulk at most 1048576: its function returns true from every world, and what was there reads as before. -/
import Derived.Test.YtneiaobhjjbedaaRows
import Derived.Test.YtneiaobhjjbedaaOpenOutline
import Derived.Test.YtneiaobhjjbedaaPureGstateZones
import Derived.WalkKit
import Derived.ProofKit
import Derived.OpenShut
import Derived.JoinedCond
import Derived.ChangeOld
import Derived.Below
namespace Go.Proofs.Ytneiaobhjjbedaa.gstateZones
open Go.ChangeShapes Go.WideShapes Go.ChangeAt Go.RowKit Go.Deep
open Go.Proofs.Ytneiaobhjjbedaa.PGstateZones Go.Proofs.YtneiaobhjjbedaaW.PrintWords Go.Proofs.YtneiaobhjjbedaaW.PrintLast
set_option linter.unusedVariables false
theorem own : ownKnob Try.prog.godebug = none := by kernel_rfl
theorem laidOut : laidOutB Try.prog = true := by kernel_rfl
set_option maxRecDepth 100000 in
theorem lifted (os : Os) (started : os.Started) (H : Type) (enc : TypeId × Value → H) (F : Stop.Interp) :
    ReturnsInHanded {} Try.checked os 9 .any ((Rows.OpenSpec.upto Rows.gstateZonesSpec).pre6 enc Try.prog Try.f9 Rows.gstateZonesUptoRow.domain false) (((Rows.OpenSpec.upto Rows.gstateZonesSpec).at F).post enc Try.prog Try.f9 false true false false) := by
  refine returnsInHanded_of_cond (C := Try.checked) (s := Rows.OpenSpec.upto Rows.gstateZonesSpec) (k := Rows.uptoSmall) rfl own started (by kernel_rfl) Try.func9
    (OpenSpec.witness (enc := enc) (C := Try.checked) (s := Rows.OpenSpec.upto Rows.gstateZonesSpec) (k := Rows.uptoSmall) rfl false ⟨#[], #[.slice none 0 0, .agg #[.slice none 0 0, .slice none 0 0, .slice none 0 0, .slice none 0 0, .slice none 0 0]], []⟩ 8 (by kernel_rfl) (by kernel_rfl) (by kernel_rfl)
      (x := ([.nil, .agg [.nil, .nil, .nil, .nil, .nil]], [], [])) (by kernel_rfl) rfl (by kernel_rfl)) ?_
  intro W base args ds gs before hval0 hW _ hk _
  have hval : ∀ (j : Nat) t v, Try.f9.params[j]? = some t → args[j]? = some v → Value.okWide Try.prog W .any base t v := hval0
  have hW' := hW
  obtain ⟨p, q, hA0, hV, rfl, hfz, hnd⟩ := hW
  have hA : DataW.TrodAll enc Try.prog W 0 (fun _ => true) true Try.f9.params.toList args.toList ds p := hA0
  rw [Try.params9] at hA hval
  obtain ⟨v0, vs0, d0, ds0, p0, q0, hargs, rfl, rfl, h0, r0⟩ := trodAll_cons hA
  obtain ⟨v1, vs1, d1, ds1, p1, q1, rfl, rfl, rfl, h1, r1⟩ := trodAll_cons r0
  obtain ⟨rfl, rfl, rfl⟩ := trodAll_nil r1
  obtain rfl : args = #[v0, v1] := by cases args; simp_all
  obtain ⟨rfl, rfl⟩ := trodVars_none hV
  have k0 := h0
  have k1 := h1
  have lt0 : ∀ x ∈ p0, x.block < W.heap.size := by obtain ⟨m, hm⟩ := k0; exact DataW.trod_lt m _ _ _ hm
  have lt1 : ∀ x ∈ p1, x.block < W.heap.size := by obtain ⟨m, hm⟩ := k1; exact DataW.trod_lt m _ _ _ hm
  have hb : Rows.uptoBulkAll ([d0, d1] ++ []) ≤ 1048576 := of_decide_eq_true hk
  simp only [List.append_nil, Rows.uptoBulkAll] at hb
  obtain ⟨A1_0, c1_0, z0, A1_1, c1_1, z1, A1_2, c1_2, z2, A1_3, c1_3, z3, A1_4, c1_4, z4, rfl, ⟨hr0, hc0, hb0⟩, ⟨hr1, hc1, hb1⟩, ⟨hr2, hc2, hb2⟩, ⟨hr3, hc3, hb3⟩, ⟨hr4, hc4, hb4⟩⟩ := open_zone (hval 1 30 v1 rfl rfl) h1
  obtain ⟨a0, len0, cap0, rfl⟩ := okWide_slice Try.underlying50 (hval 0 50 v0 rfl rfl)
  obtain ⟨fuel, hf⟩ := h0
  obtain ⟨A0, c0, l0, e0, hr, hc, hl, ht⟩ := open_outline hf
  simp [Value.cells] at e0
  obtain ⟨rfl, rfl, rfl⟩ := e0
  clear hA0 hval0 hk
  have hl1 : l0.length ≤ Rows.uptoBulk d0 := hl
  have ht1 : Pure2.tot l0 l0.length 0 ≤ Rows.uptoBulk d0 := ht
  have hl' : l0.length ≤ 1048576 := by omega
  obtain ⟨k, hk⟩ := Pure2.GstateZones l0 z0 z1 z2 z3 z4 hl' (by omega) (by omega) (by omega) (by omega) (by omega) (by omega)
  refine (seriflaw09_GstateZones.calls k _ _ l0 _ _ z0 _ _ z1 _ _ z2 _ _ z3 _ _ z4 true W hr hc hr0 hc0 hr1 hc1 hr2 hc2 hr3 hc3 hr4 hc4 hk rfl).mono fun e W' ⟨he, bel⟩ => ?_
  subst he
  exact ⟨_, rfl, _, _, _, [], _, [], hW', trodAll_mk1 (shut_bool Try.underlying4 _), (trodAll_cons_mk (Below.trod laidOut (by kernel_rfl) (of_decide_eq_true (by kernel_rfl)) k0 bel lt0) (trodAll_cons_mk (Below.trod laidOut (by kernel_rfl) (of_decide_eq_true (by kernel_rfl)) k1 bel lt1) trodAll_mk0)), rfl, bel.frame _, fun h => by cases h⟩
theorem over : Rows.gstateZonesUptoRow.holds Try.pinned (Rows.OpenSpec.upto Rows.gstateZonesSpec) :=
  OpenClaim.holds_of_cond 9 Try.f9 rfl rfl rfl rfl rfl rfl rfl ⟨rfl, rfl, rfl, rfl, rfl⟩ rfl rfl rfl rfl rfl (by kernel_rfl) Try.func9 (by kernel_rfl)
    (of_decide_eq_true (by kernel_rfl)) (by unfold Func.isWrapper; first | (rw [if_pos (by decide +kernel)]; kernel_rfl) | (rw [if_neg (by decide +kernel)]; exact ⟨rfl, rfl⟩))
    (fun os started H enc _ F => lifted os started H enc F)
theorem proved : Rows.GstateZonesUptoSaid := over
#print axioms proved
end Go.Proofs.Ytneiaobhjjbedaa.gstateZones
namespace Go.Proofs.Ytneiaobhjjbedaa
/-- The row, under a short name, for the claim. -/
theorem gstateZonesUpto_holds : Rows.GstateZonesUptoSaid := gstateZones.proved
end Go.Proofs.Ytneiaobhjjbedaa
