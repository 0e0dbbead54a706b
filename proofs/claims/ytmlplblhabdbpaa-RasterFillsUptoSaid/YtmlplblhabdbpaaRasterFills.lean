/- A part of the proof: rules for walking code over the evaluator, and what the functions that were walked come to: no condition but those that each theorem states. -/
import Derived.Test.YtmlplblhabdbpaaRA
import Derived.Test.YtmlplblhabdbpaaFC
import Derived.Test.YtmlplblhabdbpaaRows
import Derived.WalkKit
import Derived.ProofKit
import Derived.OpenShut
import Derived.JoinedCond
import Derived.ChangeOld
import Derived.Below
import Derived.WideKeyArr2
import Derived.Conc.Holds
import Derived.Leaving
set_option linter.unusedVariables false
set_option linter.unusedSimpArgs false
namespace Go.Proofs.Ytmlplblhabdbpaa
open Go.Ab Go.RowKit
variable {W : World}
/-- The law RasterFills, from every world. -/
theorem fills_calls {A : Option Addr} {cap : Nat} {rs : List InR} (hP : Polys W A cap rs) (hb : rs.length ≤ 2000000) (ht : totM (rs.map InR.c) ≤ 2000000) :
    Calls Try.prog 4 #[.slice A rs.length cap] W fun e W' => e = .returned (.bool true) ∧ Below W.heap.size W W' := by
  refine calls_of_rowsV (k := rs.length + 1) ab_names (polys_ok hP) (.cons (polys_vr hP) .nil) (Xc (rs.length + 1)) (xc_calls _ _) ?_
  have hl : (rs.map InR.c).length = rs.length := List.length_map _
  have h := fills_sp (cp := cap) (xc_own _) (xc_ok _) (vModels fun ν d hν hd => (polys_ok hP ν d hν hd).fit) (polys_read hP) (by rw [hl]; exact hb) ht
  rw [hl] at h
  exact h
end Go.Proofs.Ytmlplblhabdbpaa

namespace Go.Proofs.Ytmlplblhabdbpaa.rasterFills
open Go.ChangeShapes Go.WideShapes Go.ChangeAt Go.RowKit Go.Deep
set_option linter.unusedVariables false
theorem own : ownKnob Try.prog.godebug = none := by kernel_rfl
theorem laidOut : laidOutB Try.prog = true := by kernel_rfl
/-- A call that ends with nobody beside it leaves nobody who could act later. -/
theorem leaving_of_handed {a : Assume} {C : Checked} {os : Os} {f : FuncId} {r : Reach} {Pre : World → Array Value → Prop} {Post : World → Array Value → Value → World → Prop} (h : ReturnsInHanded a C os f r Pre Post) :
    ReturnsInLeavingWide a C os f r Pre Post := fun enter => by
  obtain ⟨h1, h2, h3, h4, h5⟩ := h enter
  refine ⟨h1, h2, h3, h4, fun w tape i hfit => ?_⟩
  obtain ⟨n, v, w', a1, a2, a3, a4, ⟨j, last, b1, b2, b3, b4, b5⟩, a6⟩ := h5 w tape i hfit
  exact ⟨n, v, w', a1, a2, a3, a4, ⟨j, last, b1, b2, b4, onlyLeaving_of_quiet b3, b5⟩, a6⟩
set_option maxRecDepth 100000 in
theorem lifted (os : Os) (started : os.Started) (H : Type) (enc : TypeId × Value → H) (F : Stop.Interp) :
    ReturnsInHanded {} Try.checked os 4 .any ((Rows.OpenSpec.upto Rows.rasterFillsSpec).pre6 enc Try.prog Try.f4 Rows.rasterFillsUptoRow.domain false) (((Rows.OpenSpec.upto Rows.rasterFillsSpec).at F).post enc Try.prog Try.f4 false true false false) := by
  refine returnsInHanded_of_cond (C := Try.checked) (s := Rows.OpenSpec.upto Rows.rasterFillsSpec) (k := Rows.uptoSmall) rfl own started (by kernel_rfl) Try.func4
    (OpenSpec.witness (enc := enc) (C := Try.checked) (s := Rows.OpenSpec.upto Rows.rasterFillsSpec) (k := Rows.uptoSmall) rfl false ⟨#[], #[.slice none 0 0], []⟩ 8 (by kernel_rfl) (by kernel_rfl) (by kernel_rfl)
      (x := ([.nil], [], [])) (by kernel_rfl) rfl (by kernel_rfl)) ?_
  intro W base args ds gs before hval0 hW hdom hk hroom
  have hval : ∀ (j : Nat) t v, Try.f4.params[j]? = some t → args[j]? = some v → Value.okWide Try.prog W .any base t v := hval0
  have hW' := hW
  obtain ⟨p, q, hA0, hV, rfl, hfz, hnd⟩ := hW
  have hA : DataW.TrodAll enc Try.prog W 0 (fun _ => true) true Try.f4.params.toList args.toList ds p := hA0
  rw [Try.params4] at hA hval
  obtain ⟨v0, vs0, d0, ds0, p0, q0, hargs, rfl, rfl, h0, r0⟩ := trodAll_cons hA
  obtain ⟨rfl, rfl, rfl⟩ := trodAll_nil r0
  obtain rfl : args = #[v0] := by cases args; simp_all
  obtain ⟨rfl, rfl⟩ := trodVars_none hV
  have k0 := h0
  have lt0 : ∀ x ∈ p0, x.block < W.heap.size := by obtain ⟨m, hm⟩ := k0; exact DataW.trod_lt m _ _ _ hm
  have hb : Rows.uptoBulkAll ([d0] ++ []) ≤ 1048576 := of_decide_eq_true hk
  simp only [List.append_nil, Rows.uptoBulkAll] at hb
  obtain ⟨a0, len0, cap0, rfl⟩ := okWide_slice Try.underlying23 (hval 0 23 v0 rfl rfl)
  obtain ⟨fuel, hf⟩ := h0
  obtain ⟨A0, c0, rs, e0, hn, hok, hblk, hfit, hcell, hl, ht⟩ := open_polys hf
  simp [Value.cells] at e0
  obtain ⟨rfl, rfl, rfl⟩ := e0
  clear hA0 hval0 hk
  have hl1 : rs.length ≤ Rows.uptoBulk d0 := hl
  have ht1 : totM (rs.map InR.c) ≤ Rows.uptoBulk d0 := ht
  refine (fills_calls (W := W) ⟨hn, hok, hblk, hfit, hcell⟩ (by omega) (by omega)).mono fun e W' ⟨he, bel⟩ => ?_
  subst he
  exact ⟨_, rfl, _, _, _, [], _, [], hW', trodAll_mk1 (shut_bool Try.underlying4 _), (trodAll_cons_mk (Below.trod laidOut (by kernel_rfl) (of_decide_eq_true (by kernel_rfl)) k0 bel lt0) trodAll_mk0), rfl, bel.frame _, fun h => by cases h⟩
/-- The row, where nobody is left. -/
theorem alone : ({ Rows.rasterFillsUptoRow with leaving := false } : OpenClaim).holds Try.pinned (Rows.OpenSpec.upto Rows.rasterFillsSpec) :=
  OpenClaim.holds_of_cond 4 Try.f4 rfl rfl rfl rfl rfl rfl rfl ⟨rfl, rfl, rfl, rfl, rfl⟩ rfl rfl rfl rfl rfl (by kernel_rfl) Try.func4 (by kernel_rfl)
    (of_decide_eq_true (by kernel_rfl)) (by unfold Func.isWrapper; first | (rw [if_pos (by decide +kernel)]; kernel_rfl) | (rw [if_neg (by decide +kernel)]; exact ⟨rfl, rfl⟩))
    (fun os started H enc _ F => lifted os started H enc F)
theorem over : Rows.rasterFillsUptoRow.holds Try.pinned (Rows.OpenSpec.upto Rows.rasterFillsSpec) := by
  obtain ⟨a1, a2, a3, a4, a5, a6, a7, a8, f, fn, b1, b2, b3, b4, b5, b6, b7, b8, b9, b10, b11, b12, b13, b14, b15, b16, b17, b18, b19, b20, b21, L, hL, hF⟩ := alone
  refine ⟨by kernel_rfl, a2, a3, a4, a5, a6, a7, a8, f, fn, b1, b2, b3, b4, b5, b6, b7, b8, b9, b10, b11, b12, b13, b14, b15, b16, b17, b18, b19, b20, b21, L, hL, fun os w q H enc inj F => ?_⟩
  exact leaving_of_handed (fun _ => hF os w q H enc inj F) (by kernel_rfl)
theorem proved : Rows.RasterFillsUptoSaid := over
#print axioms proved
end Go.Proofs.Ytmlplblhabdbpaa.rasterFills
namespace Go.Proofs.Ytmlplblhabdbpaa
/-- The row, under a short name, for the claim. -/
theorem rasterFillsUpto_holds : Rows.RasterFillsUptoSaid := rasterFills.proved
end Go.Proofs.Ytmlplblhabdbpaa
