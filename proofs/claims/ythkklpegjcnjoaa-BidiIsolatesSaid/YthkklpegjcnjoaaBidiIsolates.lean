/- A part of the proof: rules for walking code over the evaluator, and what the functions that were walked come to: no condition but those that each theorem states. -/
import Derived.Test.YthkklpegjcnjoaaPC
import Derived.Test.YthkklpegjcnjoaaTX
import Derived.Test.YthkklpegjcnjoaaLgB
import Derived.Test.YthkklpegjcnjoaaRows
import Derived.WalkKit
import Derived.ProofKit
import Derived.OpenShut
import Derived.ShutString
import Derived.ChangeOld
import Derived.Below
import Derived.SizedLaws
set_option linter.unusedVariables false
set_option linter.unusedSimpArgs false
namespace Go.Proofs.Ythkklpegjcnjoaa.bidiIsolates
open Go.ChangeShapes Go.WideShapes Go.ChangeAt Go.RowKit
set_option linter.unusedVariables false
theorem own : ownKnob Try.prog.godebug = none := by kernel_rfl
theorem laidOut : laidOutB Try.prog = true := by kernel_rfl

/-- A handed slice's address has no spot, and a block lies there. -/
theorem spot_of {P : Program} {W : World} {base : Nat} {t e : TypeId} {a : Option Addr} {len cap : Nat} (ht : P.underlying t = some (.slice e)) (h : Value.okWide P W .any base t (.slice a len cap)) :
    ∀ x, a = some x → x.spot = none ∧ ∃ cs t fr, W.heap[x.block]? = some (.cells cs t fr) := by
  rintro x rfl
  simp only [Value.okWide, ht, Cell.okWide, Cell.ok, World.has] at h
  obtain ⟨_, _, _, hs, row, cells, hsh, _⟩ := h
  refine ⟨hs, ?_⟩
  unfold World.shape? at hsh
  split at hsh
  · rename_i c e f hb; exact ⟨c, e, f, hb⟩
  · cases hsh

theorem look_lri : Ab.eqI (lookF 8294).2.1 19 = true := by kernel_rfl
theorem look_pdi : Ab.eqI (lookF 8297).2.1 22 = true := by kernel_rfl
theorem yc_LB (c : Int) : Yc.LB c = (lookF c).2.1 := by simp only [Yc]
theorem of_eqI {a b : Int} (h : Ab.eqI a b = true) : a = b := by rw [Ab.eqI_eq] at h; exact eq_of_beq h
theorem sep' (c d : Int) (h : Ab.eqI (lookF c).2.1 d = true) : Yc.LB c = d := (yc_LB c).trans (of_eqI h)
theorem lri : Yc.LB 8294 = 19 := sep' 8294 19 look_lri
theorem pdi : Yc.LB 8297 = 22 := sep' 8297 22 look_pdi

/-- A handed slice of whole numbers, as the logic wants it. -/
theorem handed_of {W : World} {a : Option Addr} {len cap : Nat} {zs : List Int} (hl : len ≤ zs.length) (hn : a = none → len = 0 ∧ cap = 0) (hs : ∀ x, a = some x → x.spot = none ∧ ∃ cs t fr, W.heap[x.block]? = some (.cells cs t fr))
    (hc : ∀ x, a = some x → ∀ i, i < zs.length → W.cell? (x.add i) = some (.int .i64 (zs.getD i 0))) : Ab.Handed W a len cap (zs.take len) := by
  have hlen : (zs.take len).length = len := by rw [List.length_take]; omega
  exact ⟨hlen, hn, hs, fun x hx i v hv => by
    have hi := (List.getElem?_eq_some_iff.mp hv).1
    rw [hlen] at hi
    rw [hc x hx i (by omega)]
    rw [List.getElem?_take, if_pos hi] at hv
    rw [List.getD_eq_getElem?_getD, hv]; rfl⟩

theorem rdd {W : World} {a : Option Addr} {len cap : Nat} {C : List Int} (h : Ab.Handed W a len cap C) {D : Nat → Option Ab.HRow} {k ν : Nat} (hν : ν < k) (hd : D ν = Ab.Handed.row (W := W) (a := a) C) : Rdd (Ab.hHpN D k) (a.map fun x => ⟨ν, x.off, none⟩) C := fun i i0 i1 => by
  cases a with
  | none =>
    have hl := (h.nil rfl).1
    have := h.long
    omega
  | some x =>
    refine ⟨ν, x.off, _, rfl, by unfold Ab.hHpN; rw [if_pos hν, hd]; rfl, ?_⟩
    dsimp only
    rw [if_pos (Nat.le_add_right _ _), Nat.add_sub_cancel_left]
    have := Ab.ints_get0 (L := C) i0 i1
    rwa [Nat.zero_add] at this
theorem walk {W : World} {a b e d : Option Addr} {la ca lb cb le ce ld cd : Nat} {Ca Cb Ce Cd : List Int} (ha : Ab.Handed W a la ca Ca) (hb : Ab.Handed W b lb cb Cb) (he : Ab.Handed W e le ce Ce) (hd : Ab.Handed W d ld cd Cd) (hla : la ≤ 9223372036854775807) (hlb : lb ≤ 9223372036854775807) (hle : le ≤ 9223372036854775807) (hld : ld ≤ 9223372036854775807) :
    Calls Try.prog 6 #[.agg #[.slice a la ca, .slice b lb cb], .agg #[.slice e le ce, .slice d ld cd]] W fun e W' => e = .returned (.bool true) ∧ Below W.heap.size W W' := by
  obtain ⟨D, hD0, hD1, hD2, hD3⟩ : ∃ D : Nat → Option Ab.HRow, D 0 = Ab.Handed.row (W := W) (a := a) Ca ∧ D 1 = Ab.Handed.row (W := W) (a := b) Cb ∧ D 2 = Ab.Handed.row (W := W) (a := e) Ce ∧ D 3 = Ab.Handed.row (W := W) (a := d) Cd :=
    ⟨fun ν => if ν = 0 then Ab.Handed.row (W := W) (a := a) Ca else if ν = 1 then Ab.Handed.row (W := W) (a := b) Cb else if ν = 2 then Ab.Handed.row (W := W) (a := e) Ce else Ab.Handed.row (W := W) (a := d) Cd, rfl, rfl, rfl, rfl⟩
  have hD : ∀ ν r, ν < 4 → D ν = some r → r.Ok W := fun ν r hν hr => by
    rcases (show ν = 0 ∨ ν = 1 ∨ ν = 2 ∨ ν = 3 by omega) with rfl | rfl | rfl | rfl
    · rw [hD0] at hr; exact (ha.ok hr).1
    · rw [hD1] at hr; exact (hb.ok hr).1
    · rw [hD2] at hr; exact (he.ok hr).1
    · rw [hD3] at hr; exact (hd.ok hr).1
  refine Ab.calls_of_rows (k := 4) tbl_names hD (.cons (Ab.VR.agg_of (.cons (ha.vr (by omega) hD0) (.cons (hb.vr (by omega) hD1) .nil))) (.cons (Ab.VR.agg_of (.cons (he.vr (by omega) hD2) (.cons (hd.vr (by omega) hD3) .nil))) .nil)) (Xc 4) (xc_calls _ 4) ?_
  have l0 := ha.long
  have l1 := hb.long
  have l2 := he.long
  have l3 := hd.long
  have s0 := fun H' hH => ha.src (P := Try.prog) (ν := 0) (k := 4) (by omega) hD0 (H := H') hH
  have s1 := fun H' hH => hb.src (P := Try.prog) (ν := 1) (k := 4) (by omega) hD1 (H := H') hH
  have s2 := fun H' hH => he.src (P := Try.prog) (ν := 2) (k := 4) (by omega) hD2 (H := H') hH
  have s3 := fun H' hH => hd.src (P := Try.prog) (ν := 3) (k := 4) (by omega) hD3 (H := H') hH
  have r0 := rdd ha (k := 4) (by omega) hD0
  have r2 := rdd he (k := 4) (by omega) hD2
  have r3 := rdd hd (k := 4) (by omega) hD3
  subst l0 l1 l2 l3
  exact isolates_sp (xc_ok 4) lri pdi (Ab.hModelsN fun ν r hν hr => (hD ν r hν hr).fit) s0 s1 s2 s3 r0 r2 r3 ⟨hla, hle, hld, hlb⟩

set_option maxRecDepth 100000 in
/-- What is known of a slice of whole numbers that is handed in. -/
theorem opened {H : Type} {enc : TypeId × Value → H} {W : World} {base : Nat} {v : Value} {d : DataW H} {p : List MemPlace} (hv : Value.okWide Try.prog W .any base 23 v) (h : DataW.Trod enc Try.prog W 0 (fun _ => true) true 23 v d p) :
    ∃ a len cap C, v = .slice a len cap ∧ Ab.Handed W a len cap C ∧ len ≤ 9223372036854775807 := by
  obtain ⟨a, len, cap, rfl⟩ := okWide_slice Try.underlying23 hv
  refine ⟨a, len, cap, ?_⟩
  have hs := spot_of Try.underlying23 hv
  obtain ⟨fuel, hf⟩ := h
  rcases open_ints Try.underlying23 Try.underlying3 (by kernel_rfl) hf with ⟨hcs, _⟩ | ⟨x, l, c, zs, hcs, _, hl, hm, hz, _, hcell, hwz⟩
  · simp [Value.cells] at hcs
    obtain ⟨rfl, rfl, rfl⟩ := hcs
    exact ⟨_, rfl, handed_of (zs := []) (Nat.le_refl _) (fun _ => ⟨rfl, rfl⟩) hs (fun x h => by cases h), by omega⟩
  · simp [Value.cells] at hcs
    obtain ⟨rfl, rfl, rfl⟩ := hcs
    have hz : zs.length = cap := by simpa using hz
    have hmx : maxLen = 9223372036854775807 := by decide
    exact ⟨_, rfl, handed_of (zs := zs) (by omega) (fun h => by cases h) hs (fun y h => by cases h; exact hcell), by omega⟩

set_option maxRecDepth 100000 in
/-- What is known of two slices of whole numbers that are handed in as one array. -/
theorem opened2 {H : Type} {enc : TypeId × Value → H} {W : World} {base : Nat} {v : Value} {d : DataW H} {p : List MemPlace} (hv : Value.okWide Try.prog W .any base 32 v) (h : DataW.Trod enc Try.prog W 0 (fun _ => true) true 32 v d p) :
    ∃ a l c C a' l' c' C', v = .agg #[.slice a l c, .slice a' l' c'] ∧ Ab.Handed W a l c C ∧ Ab.Handed W a' l' c' C' ∧ l ≤ 9223372036854775807 ∧ l' ≤ 9223372036854775807 := by
  simp only [Value.okWide, Try.underlying32] at hv
  obtain ⟨cs, rfl, hsz, ts, hts, _, hc⟩ := hv
  have hts' : Try.prog.cellTypes Try.prog.depth 32 = some [23, 23] := by kernel_rfl
  rw [hts'] at hts
  cases hts
  have h32 : Try.prog.cellsOf 32 = 2 := by kernel_rfl
  have h23 : Try.prog.cellsOf 23 = 1 := by kernel_rfl
  rw [h32] at hsz
  obtain ⟨x, y, rfl⟩ : ∃ x y, cs = #[x, y] := by
    obtain ⟨l⟩ := cs
    match l, hsz with
    | [x, y], _ => exact ⟨x, y, rfl⟩
  obtain ⟨u0, e0, k0⟩ := hc 0 x rfl
  obtain ⟨u1, e1, k1⟩ := hc 1 y rfl
  cases e0
  cases e1
  have v0 : Value.okWide Try.prog W .any base 23 x := by simp only [Value.okWide, Try.underlying23]; exact k0
  have v1 : Value.okWide Try.prog W .any base 23 y := by simp only [Value.okWide, Try.underlying23]; exact k1
  obtain ⟨fuel, hf⟩ := h
  cases fuel with
  | zero => simp [DataW.trod] at hf
  | succ m =>
    rw [DataW.trod_step] at hf
    unfold DataW.trodStep at hf
    simp only [Try.underlying32, Value.cells] at hf
    rw [if_pos (by rw [h32]; rfl)] at hf
    simp only [Option.map_eq_some_iff] at hf
    obtain ⟨ys, hy, _⟩ := hf
    rw [show List.range 2 = [0, 1] from rfl] at hy
    simp only [List.mapM_cons, List.mapM_nil, bind, Option.bind_eq_some_iff, pure, Option.some.injEq, h23] at hy
    obtain ⟨y0, hy0, ys1, ⟨y1, hy1, _⟩, _⟩ := hy
    have q0 : DataW.trod enc Try.prog W 0 (fun _ => true) true m 23 [x] = some y0 := hy0
    have q1 : DataW.trod enc Try.prog W 0 (fun _ => true) true m 23 [y] = some y1 := hy1
    obtain ⟨a, l, c, rfl⟩ := okWide_slice Try.underlying23 v0
    obtain ⟨a', l', c', rfl⟩ := okWide_slice Try.underlying23 v1
    obtain ⟨b, n, k, C, e, hC, hn⟩ := opened v0 (d := y0.1) (p := y0.2) ⟨m, q0⟩
    obtain ⟨b', n', k', C', e', hC', hn'⟩ := opened v1 (d := y1.1) (p := y1.2) ⟨m, q1⟩
    cases e
    cases e'
    exact ⟨_, _, _, C, _, _, _, C', rfl, hC, hC', hn, hn'⟩

set_option maxRecDepth 100000 in
theorem lifted (os : Os) (started : os.Started) (H : Type) (enc : TypeId × Value → H) :
    ReturnsInHanded {} Try.checked os 6 .any (Rows.bidiIsolatesSpec.pre6 enc Try.prog Try.f6 Rows.bidiIsolatesRow.domain false) (Rows.bidiIsolatesSpec.post enc Try.prog Try.f6 false true false false) := by
  refine returnsInHanded_of_change_sized (C := Try.checked) own started (by kernel_rfl) Try.func6
    (ChangeSpec.witness6 (enc := enc) (C := Try.checked) false ⟨#[], #[.agg #[.slice none 0 0, .slice none 0 0], .agg #[.slice none 0 0, .slice none 0 0]], []⟩ 8 (by kernel_rfl) (by kernel_rfl) (by kernel_rfl) (by kernel_rfl)) ?_
  intro W base args ds gs before hval0 hW hcnd hsz0 _
  have hval : ∀ (j : Nat) t v, Try.f6.params[j]? = some t → args[j]? = some v → Value.okWide Try.prog W .any base t v := hval0
  have hW' := hW
  obtain ⟨p, q, hA0, hV, rfl, hfz, hnd⟩ := hW
  have hA : DataW.TrodAll enc Try.prog W 0 (fun _ => true) true Try.f6.params.toList args.toList ds p := hA0
  rw [Try.params6] at hA hval
  obtain ⟨v0, vs0, d0, ds0, p0, q0, hargs, rfl, rfl, h0, r0⟩ := trodAll_cons hA
  obtain ⟨v1, vs1, d1, ds1, p1, q1, rfl, rfl, rfl, h1, r1⟩ := trodAll_cons r0
  obtain ⟨rfl, rfl, rfl⟩ := trodAll_nil r1
  obtain rfl : args = #[v0, v1] := by cases args; simp_all
  obtain ⟨rfl, rfl⟩ := trodVars_none hV
  obtain ⟨a0, l0, c0, C0, a1, l1, c1, C1, rfl, hd0, hd1, b0, b1⟩ := opened2 (hval 0 32 v0 rfl rfl) h0
  obtain ⟨a2, l2, c2, C2, a3, l3, c3, C3, rfl, hd2, hd3, b2, b3⟩ := opened2 (hval 1 32 v1 rfl rfl) h1
  have lt0 : ∀ x ∈ p0, x.block < W.heap.size := by obtain ⟨m, hm⟩ := h0; exact DataW.trod_lt m _ _ _ hm
  have lt1 : ∀ x ∈ p1, x.block < W.heap.size := by obtain ⟨m, hm⟩ := h1; exact DataW.trod_lt m _ _ _ hm
  clear hA0 hval0 hsz0
  refine (walk hd0 hd1 hd2 hd3 b0 b1 b2 b3).mono fun e W' ⟨he, bel⟩ => ?_
  subst he
  exact ⟨_, rfl, _, _, _, [], _, [], hW', trodAll_mk1 (shut_bool Try.underlying4 _), (trodAll_cons_mk (Below.trod laidOut (by kernel_rfl) (of_decide_eq_true (by kernel_rfl)) h0 bel lt0) (trodAll_cons_mk (Below.trod laidOut (by kernel_rfl) (of_decide_eq_true (by kernel_rfl)) h1 bel lt1) trodAll_mk0)), rfl, bel.frame _, fun h => by cases h⟩
theorem over : Rows.bidiIsolatesRow.holds Try.pinned (OpenSpec.ofChange Rows.bidiIsolatesSpec) :=
  OpenClaim.holds_of_wide 6 Try.f6 rfl rfl rfl rfl rfl rfl rfl ⟨rfl, rfl, rfl, rfl, rfl⟩ rfl rfl rfl rfl rfl (by kernel_rfl) Try.func6 (by kernel_rfl)
    (of_decide_eq_true (by kernel_rfl)) (by unfold Func.isWrapper; first | (rw [if_pos (by decide +kernel)]; kernel_rfl) | (rw [if_neg (by decide +kernel)]; exact ⟨rfl, rfl⟩))
    (fun os started H enc _ => lifted os started H enc)
theorem proved : Rows.BidiIsolatesSaid := over
#print axioms proved
end Go.Proofs.Ythkklpegjcnjoaa.bidiIsolates
namespace Go.Proofs.Ythkklpegjcnjoaa
/-- The row, under a short name, for the claim. -/
theorem bidiIsolates_holds : Rows.BidiIsolatesSaid := bidiIsolates.proved
end Go.Proofs.Ythkklpegjcnjoaa
