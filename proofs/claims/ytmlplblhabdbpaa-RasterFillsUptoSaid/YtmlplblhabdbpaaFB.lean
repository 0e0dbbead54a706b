/- A part of the proof: rules for walking code over the evaluator, and what the functions that were walked come to: no condition but those that each theorem states. -/
import Derived.Test.YtmlplblhabdbpaaFA
import Derived.Test.YtmlplblhabdbpaaLgB
set_option linter.unusedVariables false
set_option linter.unusedSimpArgs false
namespace Go.Proofs.Ytmlplblhabdbpaa
open Go.Ab
variable {X : CallE} {ro : Nat}
set_option maxRecDepth 10000
set_option linter.unusedVariables false
set_option linter.unusedSimpArgs false

def bdB (b : Bx) : Prop := (-16777216 ≤ b.x0 ∧ b.x0 ≤ 16777216) ∧ (-16777216 ≤ b.y0 ∧ b.y0 ≤ 16777216) ∧ (-16777216 ≤ b.x1 ∧ b.x1 ≤ 16777216) ∧ (-16777216 ≤ b.y1 ∧ b.y1 ≤ 16777216)
theorem addB_bd {b : Bx} {s : Spt} (h : bdB b) (hs : okS s) : bdB (addB b s) := by
  unfold addB bdB okS minI maxI at *
  split
  · dsimp only; refine ⟨⟨?_, ?_⟩, ⟨?_, ?_⟩, ⟨?_, ?_⟩, ?_, ?_⟩ <;> split <;> omega
  · exact ⟨hs.1, hs.2, hs.1, hs.2⟩
theorem fold_bd : ∀ (c : List Spt) (b : Bx), bdB b → (∀ s ∈ c, okS s) → bdB (c.foldl addB b)
  | [], _, h, _ => h
  | s :: c, b, h, hc => by rw [List.foldl_cons]; exact fold_bd c _ (addB_bd h (hc s (by simp))) fun t ht => hc t (by simp [ht])
theorem box_bd {p : List (List Spt)} (h : wideM p = false) : bdB (boxM p) := by
  rw [box_flat]
  refine fold_bd _ _ ⟨by decide, by decide, by decide, by decide⟩ fun s hs => ?_
  obtain ⟨c, hc, hs⟩ := List.mem_flatten.mp hs
  exact wide_ok h c hc s hs
theorem box_ord {p : List (List Spt)} (h : (boxM p).so = true) : (boxM p).x0 ≤ (boxM p).x1 ∧ (boxM p).y0 ≤ (boxM p).y1 := by
  have h2 := h
  rw [box_flat, fold_so] at h2
  cases hf : p.flatten with
  | nil => rw [hf] at h2; cases h2
  | cons s l =>
    obtain ⟨c, hc, hs⟩ := List.mem_flatten.mp (show s ∈ p.flatten by rw [hf]; simp)
    obtain ⟨⟨a1, a2⟩, a3, a4⟩ := box_in hc hs
    omega
/-- A mask, and the error's number. -/
structure Mkd where
  (X Y W H : Int) (cov : List Int) (err : Int)
def wM (p : List (List Spt)) : Nat := ((boxM p).x1 / 64 - (boxM p).x0 / 64 + 1).toNat
def hM' (p : List (List Spt)) : Nat := ((boxM p).y1 / 64 - (boxM p).y0 / 64 + 1).toNat
def coverM (p : List (List Spt)) : List Int := (List.range (wM p * hM' p)).map fun k => alphaM (cellsM p ((boxM p).x0 / 64 + (k % wM p : Nat)) ((boxM p).y0 / 64 + (k / wM p : Nat)))
def fillM (p : List (List Spt)) : Mkd := if checkM p ≠ 0 then ⟨0, 0, 0, 0, [], checkM p⟩ else if (boxM p).so = false then ⟨0, 0, 0, 0, [], 0⟩ else if 512 < wM p ∨ 512 < hM' p then ⟨0, 0, 0, 0, [], 213⟩ else ⟨(boxM p).x0 / 64, (boxM p).y0 / 64, wM p, hM' p, coverM p, 0⟩
def F26 : Value := .func (.func 26) #[] #[]
/-- Fill's way to count. -/
theorem fill1_sp {s : St} {H : Hp} {ve cov : Value} {L : List Ed} {p : List (List Spt)} {mx my : Int} {w h : Nat} {SM : List Cr → List Cr} (hX : OwnX X) (hE : ExtOk X ro SM) (hM : Models ro s H) (hve : SlO H ve 5 L.length (L.flatMap encE)) (hpe : L.Perm (edgesM p)) (hse : Srt Ed.y0 L)
    (hwide : wideM p = false) (htot : totM p ≤ 16384) (hw : 0 < w ∧ w ≤ 512) (hh : h ≤ 512) (hmx : -16777216 ≤ mx ∧ mx ≤ 16777216) (hmy : -16777216 ≤ my ∧ my ≤ 16777216) (hbx : 64 * mx ≤ (boxM p).x0 ∧ (boxM p).x1 ≤ 64 * (mx + w)) (hcov : oneC cov = true) (hcov2 : cellsV cov = some [cov]) :
    Sp X Try.prog ro 26 [ve, .agg #[.int .i64 mx, .int .i64 my, .int .i64 w, .int .i64 h, cov]] s fun v H' => ∃ bc, v = .slice (some ⟨bc, 0, none⟩) (w * h) (w * h) ∧ H bc = none ∧ Ext H H' ∧
      H' bc = some (.row 1 (((List.range (w * h)).map fun k => cellsM p (mx + (k % w : Nat)) (my + (k / w : Nat))).map (.int .i64))) := by
  refine Sp.of_body (hX _ _ _ (by decide) (by decide) (by decide) (by decide)) Try.func26 rfl Try.ntmps26 (by simp) ?_
  refine WC.seq ?_
  refine WC.region ?_
  refine WO.cons (SV.boxM (by assumption) rfl (fun a0_0 s0_0 hf0_0 hne0_0 hn0_0 hM0_0 => ?_)) (by decide)
  refine WO.cons (SV.assignV (by constructor) ?_) (by decide)
  refine WO.nil ?_
  replace hM0_0 : Models ro s0_0 (H.up a0_0 (.row 0 [.int .i64 mx, .int .i64 my, .int .i64 w, .int .i64 h, cov])) := hM0_0
  have hE0 : Ext H (H.up a0_0 (.row 0 [.int .i64 mx, .int .i64 my, .int .i64 w, .int .i64 h, cov])) := ext_up hne0_0
  have hrow : (H.up a0_0 (.row 0 [.int .i64 mx, .int .i64 my, .int .i64 w, .int .i64 h, cov])) a0_0 = some (.row 0 [.int .i64 mx, .int .i64 my, .int .i64 w, .int .i64 h, cov]) := Hp.up_same
  generalize H.up a0_0 (.row 0 [.int .i64 mx, .int .i64 my, .int .i64 w, .int .i64 h, cov]) = H1 at *
  refine WC.seq ?_
  refine WC.region ?_
  refine WO.cons (SV.move ?_) (by decide)
  refine WO.cons ?_ (by decide)
  refine SV.loadMA (l := [.int .i64 mx, .int .i64 my, .int .i64 w, .int .i64 h, cov]) hM0_0 rfl hrow rfl (fun i v hv => by rw [Nat.zero_add]; exact hv) ?_
  refine WO.cons (SV.fieldAddr rfl ?_) (by decide)
  refine WO.cons (SV.loadM (by assumption) rfl (by assumption) (by rfl) ?_) (by decide)
  refine WO.cons ?_ (by decide)
  refine SV.callM rfl rfl (counted_sp hX hE hM0_0 (slO_ext hve fun μ o _ e => hE0 μ o e) hpe hse hwide htot hw hh hmx hmy hbx hcov hcov2) ?_
  rintro v s2 H2 hn2 hM2 ⟨bc, rfl, hb, hE2, hc⟩
  refine WO.cons (SV.field rfl rfl ?_) (by decide)
  refine WO.cons (SV.assignV (by constructor) ?_) (by decide)
  refine WO.nil ?_
  refine WC.ret ?_
  refine fin_one (e := .ret) rfl trivial rfl (by omega) hM2 ⟨bc, rfl, ?_, hE0.trans hE2, hc⟩
  cases e : H bc with
  | none => rfl
  | some o => rw [hE0 _ _ e] at hb; cases hb
theorem mul_le512 {a b : Nat} (h : a ≤ 512 ∧ b ≤ 512) : a * b ≤ 262144 := Nat.le_trans (Nat.mul_le_mul h.1 h.2) (by decide)
set_option maxHeartbeats 2000000 in
/-- raster.masked with Fill's way to count. -/
theorem masked_sp {s : St} {H : Hp} {A : Option Addr} {cp : Nat} {p : List (List Spt)} {SM : List Cr → List Cr} (hX : OwnX X) (hE : ExtOk X ro SM) (hM : Models ro s H) (hp : PolyH H A p) (hb : p.length ≤ 1000000000000) (hbig : totM p ≤ 1000000000000) :
    Sp X Try.prog ro 25 [.slice A p.length cp, F26] s fun v H' => ∃ cv, v = .tuple #[.agg #[.int .i64 (fillM p).X, .int .i64 (fillM p).Y, .int .i64 (fillM p).W, .int .i64 (fillM p).H, cv], .int .i64 (fillM p).err] ∧
      SlO H' cv 1 (fillM p).cov.length ((fillM p).cov.map (.int .u8)) ∧ Ext H H' := by
  refine Sp.of_body (hX _ _ _ (by decide) (by decide) (by decide) (by decide)) Try.func25 rfl Try.ntmps25 (by simp) ?_
  refine WC.seq ?_
  refine WC.region ?_
  refine WO.cons (SV.allocM (by assumption) (fun a0_0 s0_0 hf0_0 hne0_0 hn0_0 hM0_0 => ?_)) (by decide)
  refine WO.cons (SV.assignV (by constructor) ?_) (by decide)
  refine WO.nil ?_
  replace hM0_0 : Models ro s0_0 (H.up a0_0 (.row 0 [.int .i64 0, .int .i64 0, .int .i64 0, .int .i64 0, .slice none 0 0])) := hM0_0
  have hE0 : Ext H (H.up a0_0 (.row 0 [.int .i64 0, .int .i64 0, .int .i64 0, .int .i64 0, .slice none 0 0])) := ext_up hne0_0
  have h40 : (H.up a0_0 (.row 0 [.int .i64 0, .int .i64 0, .int .i64 0, .int .i64 0, .slice none 0 0])) a0_0 = some (.row 0 [.int .i64 0, .int .i64 0, .int .i64 0, .int .i64 0, .slice none 0 0]) := Hp.up_same
  have hf4 : H a0_0 = none := hf0_0
  generalize H.up a0_0 (.row 0 [.int .i64 0, .int .i64 0, .int .i64 0, .int .i64 0, .slice none 0 0]) = H0 at *
  refine WC.seq (WC.seq ?_)
  refine WC.region ?_
  refine WO.cons (SV.moveV (by constructor) ?_) (by decide)
  refine WO.cons ?_ (by decide)
  refine SV.callM rfl rfl (check_sp hX hM0_0 (hp.ext hE0) (by omega) (by omega)) ?_
  rintro v s1 H1 hn1 hM1 ⟨rfl, rfl⟩
  refine WO.cons (SV.assignV (by constructor) ?_) (by decide)
  refine WO.nil ?_
  refine WC.seq ?_
  refine WC.region ?_
  refine WO.cons (SV.moveV (by constructor) ?_) (by decide)
  refine WO.cons (SV.neqI rfl rfl ?_) (by decide)
  refine WO.nil ?_
  by_cases hc : checkM p = 0
  rotate_left
  · have hd : (decide (checkM p ≠ 0)) = true := decide_eq_true hc
    refine WC.condT rfl (by assumption) (WC.seq ?_)
    refine WC.region ?_
    refine WO.cons (SV.build rfl ?_) (by decide)
    refine WO.cons (SV.moveV (by constructor) ?_) (by decide)
    refine WO.cons0 (SV.storeMA (by assumption) rfl rfl rfl rfl (by assumption) (by (simp only [List.length_map]; omega)) (fun s3_2 hn3_2 hM3_2 => ?_))
    refine WO.cons (SV.assignV (by constructor) ?_) (by decide)
    refine WO.nil ?_
    refine WC.ret ?_
    change FinM Try.prog ro s.next Try.f25 _ Ex.ret _ [] _
    have hfm : fillM p = ⟨0, 0, 0, 0, [], checkM p⟩ := by unfold fillM; rw [if_pos hc]
    rw [hfm]
    refine fin_cellT (e := .ret) (es := 0) (vs := [.int .i64 0, .int .i64 0, .int .i64 0, .int .i64 0, .slice none 0 0]) rfl trivial rfl Hp.up_same rfl rfl (by omega) hM3_2 (hM3_2.sub (H' := H) fun ν o e => Hp.up_ne (fun h => by rw [h, hf4] at e; cases e) (hE0 ν o e)) ⟨.slice none 0 0, rfl, .inl ⟨rfl, rfl, rfl⟩, Ext.refl⟩
  have hd : (decide (checkM p ≠ 0)) = false := decide_eq_false (by simp [hc])
  have hwt : ¬ 16384 < totM p ∧ wideM p = false := by
    unfold checkM at hc
    by_cases h1 : 16384 < totM p
    · rw [if_pos h1] at hc; cases hc
    · rw [if_neg h1] at hc
      cases hw : wideM p with
      | true => rw [hw, if_pos rfl] at hc; cases hc
      | false => exact ⟨h1, rfl⟩
  obtain ⟨htot, hwide⟩ := hwt
  refine WC.condF rfl (by assumption) (WC.skip (WC.seq ?_))
  refine WC.region ?_
  refine WO.cons (SV.moveV (by constructor) ?_) (by decide)
  refine WO.cons ?_ (by decide)
  refine SV.callM rfl rfl (bounds_sp hX hM1 (hp.ext hE0) (by omega) (by omega)) ?_
  rintro v s2 H2 hn2 hM2 ⟨rfl, rfl⟩
  refine WO.cons (SV.moveV (by constructor) ?_) (by decide)
  refine WO.cons (SV.extract rfl rfl ?_) (by decide)
  refine WO.cons (SV.extract rfl rfl ?_) (by decide)
  refine WO.cons (SV.allocM (by assumption) (fun a4_5 s4_5 hf4_5 hne4_5 hn4_5 hM4_5 => ?_)) (by decide)
  refine WO.cons0 (SV.storeMA (by assumption) rfl rfl rfl rfl (by exact Hp.up_same) (by (simp; done)) (fun s4_6 hn4_6 hM4_6 => ?_))
  refine WO.cons (SV.assignV (by constructor) ?_) (by decide)
  refine WO.nil ?_
  rw [Hp.up_up] at hM4_6
  have hbb := box_bd hwide
  obtain ⟨⟨u1, u2⟩, ⟨u3, u4⟩, ⟨u5, u6⟩, u7, u8⟩ := hbb
  have hord := box_ord (p := p)
  obtain ⟨x0, hx0⟩ : ∃ x, x = (boxM p).x0 := ⟨_, rfl⟩
  obtain ⟨y0, hy0⟩ : ∃ x, x = (boxM p).y0 := ⟨_, rfl⟩
  obtain ⟨x1, hx1⟩ : ∃ x, x = (boxM p).x1 := ⟨_, rfl⟩
  obtain ⟨y1, hy1⟩ : ∃ x, x = (boxM p).y1 := ⟨_, rfl⟩
  rw [← hx0, ← hx1, ← hy0, ← hy1] at hord
  rw [← hx0] at u1 u2
  rw [← hy0] at u3 u4
  rw [← hx1] at u5 u6
  rw [← hy1] at u7 u8
  rw [← hx0, ← hy0, ← hx1, ← hy1] at hM4_6
  rw [← hx0, ← hy0, ← hx1, ← hy1]
  replace hM4_6 : Models ro s4_6 (H2.up a4_5 (.row 0 [.int .i64 x0, .int .i64 y0, .int .i64 x1, .int .i64 y1])) := hM4_6
  have hE7 : Ext H2 (H2.up a4_5 (.row 0 [.int .i64 x0, .int .i64 y0, .int .i64 x1, .int .i64 y1])) := ext_up hne4_5
  have h7 : (H2.up a4_5 (.row 0 [.int .i64 x0, .int .i64 y0, .int .i64 x1, .int .i64 y1])) a4_5 = some (.row 0 [.int .i64 x0, .int .i64 y0, .int .i64 x1, .int .i64 y1]) := Hp.up_same
  have h47 := hE7 _ _ h40
  have hE07 := hE0.trans hE7
  generalize H2.up a4_5 (.row 0 [.int .i64 x0, .int .i64 y0, .int .i64 x1, .int .i64 y1]) = H7 at *
  refine WC.seq (WC.seq ?_)
  refine WC.region ?_
  refine WO.cons (SV.moveV (by constructor) ?_) (by decide)
  refine WO.cons (SV.not rfl ?_) (by decide)
  refine WO.nil ?_
  cases hso : (boxM p).so with
  | false =>
    refine WC.condT rfl (by rfl) (WC.seq ?_)
    refine WC.region ?_
    refine WO.cons (SV.build rfl ?_) (by decide)
    refine WO.cons0 (SV.storeMA (by assumption) rfl rfl rfl rfl (by assumption) (by (simp only [List.length_map]; omega)) (fun s6_1 hn6_1 hM6_1 => ?_))
    refine WO.cons (SV.assignV (by constructor) ?_) (by decide)
    refine WO.nil ?_
    refine WC.ret ?_
    change FinM Try.prog ro s.next Try.f25 _ Ex.ret _ [] _
    have hfm : fillM p = ⟨0, 0, 0, 0, [], 0⟩ := by unfold fillM; rw [if_neg (fun h => h hc), if_pos hso]
    rw [hfm]
    refine fin_cellT (e := .ret) (es := 0) (vs := [.int .i64 0, .int .i64 0, .int .i64 0, .int .i64 0, .slice none 0 0]) rfl trivial rfl Hp.up_same rfl rfl (by omega) hM6_1 (hM6_1.sub (H' := H) fun ν o e => Hp.up_ne (fun h => by rw [h, hf4] at e; cases e) (hE07 ν o e)) ⟨.slice none 0 0, rfl, .inl ⟨rfl, rfl, rfl⟩, Ext.refl⟩
  | true =>
    obtain ⟨o1, o2⟩ := hord hso
    refine WC.condF rfl (by rfl) (WC.skip (WC.seq ?_))
    refine WC.region ?_
    refine WO.cons (SV.fieldAddr rfl ?_) (by decide)
    refine WO.cons (SV.loadM (by assumption) rfl (by assumption) (by rfl) ?_) (by decide)
    refine WO.cons (SV.shr6 rfl rfl ?_) (by decide)
    refine WO.cons (SV.fieldAddr rfl ?_) (by decide)
    refine WO.cons (SV.loadM (by assumption) rfl (by assumption) (by rfl) ?_) (by decide)
    refine WO.cons (SV.shr6 rfl rfl ?_) (by decide)
    refine WO.cons (SV.build rfl ?_) (by decide)
    refine WO.cons (SV.allocM (by assumption) (fun a7_7 s7_7 hf7_7 hne7_7 hn7_7 hM7_7 => ?_)) (by decide)
    refine WO.cons0 (SV.storeMA (by assumption) rfl rfl rfl rfl (by exact Hp.up_same) (by (simp; done)) (fun s7_8 hn7_8 hM7_8 => ?_))
    refine WO.nil ?_
    rw [Hp.up_up] at hM7_8
    replace hM7_8 : Models ro s7_8 (H7.up a7_7 (.row 0 [.int .i64 (x0 / 64), .int .i64 (y0 / 64), .int .i64 0, .int .i64 0, .slice none 0 0])) := hM7_8
    have h77 : (H7.up a7_7 (.row 0 [.int .i64 (x0 / 64), .int .i64 (y0 / 64), .int .i64 0, .int .i64 0, .slice none 0 0])) a4_5 = some (.row 0 [.int .i64 x0, .int .i64 y0, .int .i64 x1, .int .i64 y1]) := Hp.up_ne (hne7_7 _ _ h7) h7
    have hcc : ∀ (vs : List Value) (i : Nat) (v : Value), [Value.int .i64 (x0 / 64), .int .i64 (y0 / 64)][i]? = some v → (Value.int .i64 (x0 / 64) :: .int .i64 (y0 / 64) :: vs)[i]? = some v := fun vs i v h => by
      match i, h with
      | 0, h => exact h
      | 1, h => exact h
    have hMk := hM7_8.rd (hcc _)
    have hk4 : (H7.up a7_7 (.rd fun i => [Value.int .i64 (x0 / 64), .int .i64 (y0 / 64)][i]?)) a4_5 = some (.row 0 [.int .i64 x0, .int .i64 y0, .int .i64 x1, .int .i64 y1]) := Hp.up_ne (hne7_7 _ _ h7) h7
    refine WC.seq ?_
    refine WC.drawM [15, 17] (H7.up a7_7 (.rd fun i => [Value.int .i64 (x0 / 64), .int .i64 (y0 / 64)][i]?)) [0, 1, 2, 3, 4, 5, 6, 7, 8, 9, 10, 11, 12, 13, 14, 15, 16, 17] (by kernel_rfl) (by kernel_rfl) (by kernel_rfl) ?_
    refine WM.act (by decide) (by kernel_rfl) (SV.fieldAddr rfl ?_) (by decide)
    refine WM.read (St1.load rfl hk4 rfl (sameV_int _ _)) hMk ?_ (by decide)
    refine WM.act (by decide) (by kernel_rfl) (SV.shr6 rfl rfl ?_) (by decide)
    refine WM.act (by decide) (by kernel_rfl) (SV.fieldAddr rfl ?_) (by decide)
    refine WM.read (St1.loadRd rfl Hp.up_same rfl (sameV_int _ _)) hMk ?_ (by decide)
    refine WM.act (by decide) (by kernel_rfl) (SV.sub64 rfl rfl (by omega) ?_) (by decide)
    refine WM.act (by decide) (by kernel_rfl) (SV.add64 rfl rfl (by omega) ?_) (by decide)
    refine WM.act (by decide) (by kernel_rfl) (SV.fieldAddr rfl ?_) (by decide)
    refine WM.read (St1.load rfl hk4 rfl (sameV_int _ _)) hMk ?_ (by decide)
    refine WM.act (by decide) (by kernel_rfl) (SV.shr6 rfl rfl ?_) (by decide)
    refine WM.act (by decide) (by kernel_rfl) (SV.fieldAddr rfl ?_) (by decide)
    refine WM.read (St1.loadRd rfl Hp.up_same rfl (sameV_int _ _)) hMk ?_ (by decide)
    refine WM.act (by decide) (by kernel_rfl) (SV.sub64 rfl rfl (by omega) ?_) (by decide)
    refine WM.act (by decide) (by kernel_rfl) (SV.add64 rfl rfl (by omega) ?_) (by decide)
    refine WM.act (by decide) (by kernel_rfl) (SV.fieldAddr rfl ?_) (by decide)
    refine WM.act0U (by kernel_rfl) hMk (SV.storeV hM7_8 rfl (by constructor) Hp.up_same (by (simp; done)) (fun s8 hn8 hM8 => ?_))
    rw [Hp.up_up] at hM8
    have hMk8 := hM8.rd (c := fun i => [Value.int .i64 (x0 / 64), .int .i64 (y0 / 64)][i]?) (hcc _)
    refine ⟨hMk8, ?_⟩
    refine WM.act (by decide) (by kernel_rfl) (SV.fieldAddr rfl ?_) (by decide)
    refine WM.act0U (by kernel_rfl) hMk8 (SV.storeV hM8 rfl (by constructor) Hp.up_same (by (simp; done)) (fun s9 hn9 hM9 => ?_))
    rw [Hp.up_up] at hM9
    refine ⟨hM9.rd (c := fun i => [Value.int .i64 (x0 / 64), .int .i64 (y0 / 64)][i]?) (hcc _), ?_⟩
    refine WM.nil ?_
    obtain ⟨W, hW⟩ : ∃ W : Int, W = x1 / 64 - x0 / 64 + 1 := ⟨_, rfl⟩
    obtain ⟨W2, hW2⟩ : ∃ W : Int, W = y1 / 64 - y0 / 64 + 1 := ⟨_, rfl⟩
    rw [← hW, ← hW2] at hM9
    rw [← hW, ← hW2]
    replace hM9 : Models ro s9 (H7.up a7_7 (.row 0 [.int .i64 (x0 / 64), .int .i64 (y0 / 64), .int .i64 W, .int .i64 W2, .slice none 0 0])) := hM9
    have hE9 : Ext H7 (H7.up a7_7 (.row 0 [.int .i64 (x0 / 64), .int .i64 (y0 / 64), .int .i64 W, .int .i64 W2, .slice none 0 0])) := ext_up hne7_7
    have h9 : (H7.up a7_7 (.row 0 [.int .i64 (x0 / 64), .int .i64 (y0 / 64), .int .i64 W, .int .i64 W2, .slice none 0 0])) a7_7 = some (.row 0 [.int .i64 (x0 / 64), .int .i64 (y0 / 64), .int .i64 W, .int .i64 W2, .slice none 0 0]) := Hp.up_same
    have h94 := hE9 _ _ h47
    have hE09 := hE07.trans hE9
    have hne94 : a7_7 ≠ a0_0 := fun h => by subst h; exact hne7_7 _ _ h47 rfl
    have hf9 : H a7_7 = none := by
      cases e : H a7_7 with
      | none => rfl
      | some o => exact (hne7_7 _ _ (hE07 _ _ e) rfl).elim
    generalize H7.up a7_7 (.row 0 [.int .i64 (x0 / 64), .int .i64 (y0 / 64), .int .i64 W, .int .i64 W2, .slice none 0 0]) = H9 at *
    have hWn : (wM p : Int) = W := by unfold wM; rw [← hx0, ← hx1]; omega
    have hHn : (hM' p : Int) = W2 := by unfold hM'; rw [← hy0, ← hy1]; omega
    refine WC.seq (WC.seq ?_)
    refine WC.region ?_
    refine WO.cons (SV.fieldAddr rfl ?_) (by decide)
    refine WO.cons (SV.loadM (by assumption) rfl (by assumption) (by rfl) ?_) (by decide)
    refine WO.cons (SV.gtr rfl rfl ?_) (by decide)
    refine WO.cons (SV.moveV (by constructor) ?_) (by decide)
    refine WO.guardDF rfl rfl rfl (fun hg9_4 hh9_4 => SV.fieldAddr rfl ?_) (fun hg9_4 hh9_4 => ?_) (by decide)
    all_goals (first | refine WO.guardY rfl rfl rfl (by assumption) (SV.loadM (by assumption) rfl (by assumption) (by rfl) ?_) (by decide) | refine WO.guardN rfl rfl rfl (by assumption) ?_ (by decide))
    all_goals (first | refine WO.guardY rfl rfl rfl (by assumption) (SV.gtr rfl rfl ?_) (by decide) | refine WO.guardN rfl rfl rfl (by assumption) ?_ (by decide))
    all_goals (first | refine WO.cons (SV.pickTV rfl (by assumption) (by constructor) ?_) (by decide) | refine WO.cons (SV.pickFV rfl (by assumption) (by constructor) ?_) (by decide))
    all_goals refine WO.nil ?_
    rotate_left
    · refine WC.condT rfl (by rfl) (WC.seq ?_)
      refine WC.region ?_
      refine WO.cons (SV.build rfl ?_) (by decide)
      refine WO.cons0 (SV.storeMA (by assumption) rfl rfl rfl rfl (by assumption) (by (simp only [List.length_map]; omega)) (fun s10_1 hn10_1 hM10_1 => ?_))
      refine WO.cons (SV.assignV (by constructor) ?_) (by decide)
      refine WO.nil ?_
      refine WC.ret ?_
      change FinM Try.prog ro s.next Try.f25 _ Ex.ret _ [] _
      have hfm : fillM p = ⟨0, 0, 0, 0, [], 213⟩ := by unfold fillM; rw [if_neg (fun h => h hc), if_neg (by rw [hso]; decide), if_pos (by omega)]
      rw [hfm]
      refine fin_cellT (e := .ret) (es := 0) (vs := [.int .i64 0, .int .i64 0, .int .i64 0, .int .i64 0, .slice none 0 0]) rfl trivial rfl Hp.up_same rfl rfl (by omega) hM10_1 (hM10_1.sub (H' := H) fun ν o e => Hp.up_ne (fun h => by rw [h, hf4] at e; cases e) (hE09 ν o e)) ⟨.slice none 0 0, rfl, .inl ⟨rfl, rfl, rfl⟩, Ext.refl⟩
    by_cases hg2 : 512 < W2
    · have hd2 : decide (512 < W2) = true := decide_eq_true hg2
      refine WC.condT rfl (by assumption) (WC.seq ?_)
      refine WC.region ?_
      refine WO.cons (SV.build rfl ?_) (by decide)
      refine WO.cons0 (SV.storeMA (by assumption) rfl rfl rfl rfl (by assumption) (by (simp only [List.length_map]; omega)) (fun s10_1 hn10_1 hM10_1 => ?_))
      refine WO.cons (SV.assignV (by constructor) ?_) (by decide)
      refine WO.nil ?_
      refine WC.ret ?_
      change FinM Try.prog ro s.next Try.f25 _ Ex.ret _ [] _
      have hfm : fillM p = ⟨0, 0, 0, 0, [], 213⟩ := by unfold fillM; rw [if_neg (fun h => h hc), if_neg (by rw [hso]; decide), if_pos (by omega)]
      rw [hfm]
      refine fin_cellT (e := .ret) (es := 0) (vs := [.int .i64 0, .int .i64 0, .int .i64 0, .int .i64 0, .slice none 0 0]) rfl trivial rfl Hp.up_same rfl rfl (by omega) hM10_1 (hM10_1.sub (H' := H) fun ν o e => Hp.up_ne (fun h => by rw [h, hf4] at e; cases e) (hE09 ν o e)) ⟨.slice none 0 0, rfl, .inl ⟨rfl, rfl, rfl⟩, Ext.refl⟩
    have hd2 : decide (512 < W2) = false := decide_eq_false hg2
    refine WC.condF rfl (by assumption) (WC.skip (WC.seq (WC.seq ?_)))
    obtain ⟨w, rfl⟩ : ∃ w : Nat, W = w := ⟨W.toNat, by omega⟩
    obtain ⟨h, rfl⟩ : ∃ w : Nat, W2 = w := ⟨W2.toNat, by omega⟩
    have hwm : wM p = w := by omega
    have hhm : hM' p = h := by omega
    let Hk := H9
    refine WC.drawM [2, 4] Hk [0, 1, 2, 3, 4, 5, 6] (by kernel_rfl) (by kernel_rfl) (by kernel_rfl) ?_
    refine WM.act (by decide) (by kernel_rfl) (SV.moveV (by constructor) ?_) (by decide)
    refine WM.act (by decide) (by kernel_rfl) (SV.moveV (by constructor) ?_) (by decide)
    refine WM.actU (by kernel_rfl) (by assumption) ?_ (by decide)
    refine SV.callM rfl rfl (edges_sp hX hM9 (hp.ext hE09) (by omega) (by omega) hwide) ?_
    rintro ve s10 H10 hn10 hM10 ⟨L, hve, hpe, hse, hE10, hfe⟩
    refine ⟨hM10.sub hE10, ?_⟩
    have hE19 := hE10
    refine WM.read (St1.loadA (l := [.int .i64 (x0 / 64), .int .i64 (y0 / 64), .int .i64 w, .int .i64 h, .slice none 0 0]) rfl h9 rfl (fun i v hv => by rw [Nat.zero_add]; exact hv) (by simp [sameV, sameV.sameVs, eqI_self])) (hM10.sub hE10) ?_ (by decide)
    have hMk10 : Models ro s10 Hk := hM10.sub hE10
    refine WM.actU (by kernel_rfl) (by assumption) ?_ (by decide)
    refine SV.callM rfl rfl (fill1_sp hX hE hM10 hve hpe hse hwide (by omega) (by omega) (by omega) (by omega) (by omega) (by omega) rfl rfl) ?_
    rintro v s11 H11 hn11 hM11 ⟨bc, rfl, hfb, hE11, hbc⟩
    have hE911 := hE10.trans hE11
    refine ⟨hM11.sub hE911, ?_⟩
    have hMk11 : Models ro s11 Hk := hM11.sub hE911
    refine WM.read (St1.len rfl rfl) (by assumption) ?_ (by decide)
    refine WM.act (by decide) (by kernel_rfl) (SV.moveV (by constructor) ?_) (by decide)
    refine WM.nil ?_
    have hwh : w * h ≤ 262144 := mul_le512 ⟨by omega, by omega⟩
    obtain ⟨K, hK⟩ : ∃ K : List Int, K = (List.range (w * h)).map fun k => cellsM p (x0 / 64 + (k % w : Nat)) (y0 / 64 + (k / w : Nat)) := ⟨_, rfl⟩
    rw [← hK] at hbc
    have hKl : K.length = w * h := by rw [hK]; simp
    have hcv : coverM p = K.map alphaM := by unfold coverM; rw [hwm, hhm, hK, ← hx0, ← hy0, List.map_map]; rfl
    obtain ⟨N, hN⟩ : ∃ N, N = w * h := ⟨_, rfl⟩
    rw [← hN] at hKl hwh
    rw [← hN]
    have hb9 : bc ≠ a7_7 := fun e => by rw [e] at hfb; rw [hE10 _ _ h9] at hfb; cases hfb
    have h119 := hE911 _ _ h9
    have h114 := hE911 _ _ h94
    obtain ⟨Hc, hHc⟩ : ∃ Hc : Hp, Hc = fun μ => if μ = a7_7 then none else H11 μ := ⟨_, rfl⟩
    have hc9 : Hc a7_7 = none := by rw [hHc]; simp
    have hcb : Hc bc = some (.row 1 (K.map (.int .i64))) := by rw [hHc]; simp only [hb9, if_false]; exact hbc
    have hc4 : Hc a0_0 = some (.row 0 [.int .i64 0, .int .i64 0, .int .i64 0, .int .i64 0, .slice none 0 0]) := by rw [hHc]; simp only [Ne.symm hne94, if_false]; exact h114
    have hEc : Ext Hc H11 := fun ν o e => by
      rw [hHc] at e
      by_cases hν : ν = a7_7
      · simp only [hν, if_true] at e; cases e
      · simp only [hν, if_false] at e; exact e
    have hEHc : Ext H Hc := fun ν o e => by
      have hν : ν ≠ a7_7 := fun h => by rw [h, hf9] at e; cases e
      rw [hHc]; simp only [hν, if_false]
      exact hE911 _ _ (hE09 _ _ e)
    refine WC.block ?_
    refine WC.loop (D := Nat × Value) (fun x => [(4, .pointer (some ⟨a0_0, 0, none⟩)), (9, .pointer (some ⟨a7_7, 0, none⟩)), (62, .slice (some ⟨bc, 0, none⟩) N N), (63, .int .i64 N), (64, .int .i64 x.1)])
      (fun x s1 => s.next ≤ s1.next ∧ ∃ H1, Models ro s1 H1 ∧ x.1 ≤ N ∧ Ext Hc H1 ∧ H1 a7_7 = some (.row 0 [.int .i64 (x0 / 64), .int .i64 (y0 / 64), .int .i64 w, .int .i64 h, x.2]) ∧ SlO H1 x.2 1 x.1 (((K.take x.1).map alphaM).map (.int .u8)) ∧ ∀ μ, baseV x.2 = some μ → Hc μ = none ∧ μ ≠ a7_7) (fun x => N - x.1) (0, .slice none 0 0) ?_ ⟨by omega, _, hM11, Nat.zero_le _, hEc, h119, ?_, ?_⟩ ?_
    · exact ⟨rfl, rfl, rfl, rfl, rfl, trivial⟩
    · exact .inl ⟨rfl, rfl, rfl⟩
    · intro μ e; cases e
    rintro ⟨k, v⟩ g s12 ⟨hn12, H12, hM12, hk, hEc12, h129, hsl, hbv⟩
    dsimp only at hk hsl hbv h129 ⊢
    have hcb12 := hEc12 _ _ hcb
    refine WC.seq ?_
    refine WC.region ?_
    refine WO.cons (SV.lss rfl rfl ?_) (by decide)
    refine WO.nil ?_
    refine WC.seq ?_
    refine WC.condD rfl (fun hlt hltb => ?_) (fun hlt hltb => ?_)
    · obtain ⟨z, hz, hdr⟩ := drop_cons (L := K) (i := k) (by omega)
      have hz2 : (K.map (Value.int .i64))[0 + k]? = some (.int .i64 z) := by rw [Nat.zero_add, List.getElem?_map, hz]; rfl
      refine WC.skip (WC.seq (WC.block (WC.seq ?_)))
      refine WC.region ?_
      refine WO.cons (SV.indexAddr rfl rfl (by omega) ?_) (by decide)
      refine WO.cons (SV.loadM (by assumption) rfl (by assumption) (by exact ints_get0 (by omega) (by omega)) ?_) (by decide)
      refine WO.cons (SV.assignV (by constructor) ?_) (by decide)
      refine WO.nil ?_
      have hsv : sameV 4 v v = true := by
        rcases hsl with ⟨rfl, _, _⟩ | ⟨ν, c, ws, rfl, _⟩
        · rfl
        · exact sameV_slc _ _ _ _
      let Hk := H12
      have hMk12 : Models ro s12 Hk := hM12
      refine WC.drawM [3] Hk [0, 1, 2, 3, 4, 5, 6, 7] (by kernel_rfl) (by kernel_rfl) (by kernel_rfl) ?_
      refine WM.act (by decide) (by kernel_rfl) (SV.fieldAddr rfl ?_) (by decide)
      refine WM.read (St1.load rfl (by assumption) (by rfl) (by assumption)) (by assumption) ?_ (by decide)
      refine WM.act (by decide) (by kernel_rfl) (SV.moveV (by constructor) ?_) (by decide)
      refine WM.actU (by kernel_rfl) (by assumption) ?_ (by decide)
      refine SV.callM rfl rfl (alpha_sp hX hM12) ?_
      rintro v14 s14 H14 hn14 hM14 ⟨rfl, rfl⟩
      refine ⟨hM14, ?_⟩
      refine WM.act (by decide) (by kernel_rfl) (SV.buildSliceM (by assumption) rfl rfl (fun a14_4 s14_4 hf14_4 hne14_4 hn14_4 hM14_4 => ?_)) (by decide)
      refine WM.act (by decide) (by kernel_rfl) ?_ (by decide)
      have hrd : rd K (k : Int) = z := by unfold rd; simp [List.getD, hz]
      rw [hrd] at hM14_4
      rw [hrd]
      replace hM14_4 : Models ro s14_4 (H14.up a14_4 (.row 1 [.int .u8 (alphaM z)])) := hM14_4
      have hE14 : Ext H14 (H14.up a14_4 (.row 1 [.int .u8 (alphaM z)])) := ext_up hne14_4
      have hv7 : baseV v ≠ some a7_7 := fun e => (hbv _ e).2 rfl
      refine SV.appendM (sz := 1) (sz' := 1) (n := k) (m := 1) (vs := ((K.take k).map alphaM).map (.int .u8)) (xs := [.int .u8 (alphaM z)]) rfl hM14_4 rfl rfl (slO_ext hsl fun μ o _ e => hE14 μ o e) (Src.row Hp.up_same rfl rfl (fun i v hv => by rw [Nat.zero_add]; exact hv)) rfl (by omega) (fun v15 s15 H15 hn15 hM15 hv15 hk15 hnew15 _ => ?_)
      have h159 := hk15 _ _ (hE14 _ _ h129) hv7
      have hEc15 : Ext Hc H15 := (hEc12.trans hE14).kept hk15 fun μ e => (hbv μ e).1
      have hbv15 : ∀ μ, baseV v15 = some μ → Hc μ = none ∧ μ ≠ a7_7 := fun μ e => by
        rcases hnew15 _ e with h2 | h2
        · exact hbv _ h2
        · refine ⟨?_, fun h => by rw [h, hE14 _ _ h129] at h2; cases h2⟩
          cases e2 : Hc μ with
          | none => rfl
          | some o => rw [hE14 _ _ (hEc12 _ _ e2)] at h2; cases h2
      refine WM.act (by decide) (by kernel_rfl) (SV.fieldAddr rfl ?_) (by decide)
      refine WM.act0 (by decide) (by kernel_rfl) ?_
      have hcv15 : cellsV v15 = some [v15] ∧ oneC v15 = true := by
        rcases hv15 with ⟨rfl, _, _⟩ | ⟨ν, c, ws, rfl, _⟩ <;> exact ⟨rfl, rfl⟩
      refine SV.storeM hM15 rfl hcv15.1 hcv15.2 h159 (by (simp; done)) (fun s16 hn16 hM16 => ?_)
      replace hM16 : Models ro s16 (H15.up a7_7 (.row 0 [.int .i64 (x0 / 64), .int .i64 (y0 / 64), .int .i64 w, .int .i64 h, v15])) := hM16
      refine WM.nil ?_
      refine WC.region ?_
      refine WO.cons (SV.add64 rfl rfl (by omega) ?_) (by decide)
      refine WO.cons (SV.moveV (by constructor) ?_) (by decide)
      refine WO.nil ?_
      refine ⟨rfl, (k + 1, v15), ⟨rfl, rfl, rfl, rfl, by show some (Value.int .i64 ((k : Int) + 1)) = _; rfl, trivial⟩, ⟨by omega, _, hM16, by dsimp only; omega, ?_, Hp.up_same, ?_, hbv15⟩, by dsimp only; omega⟩
      · exact hEc15.up fun ν o e h => by rw [h, hc9] at e; cases e
      · rw [List.take_add_one, hz]
        simp only [Option.toList_some, List.map_append, List.map_cons, List.map_nil]
        exact slO_ext hv15 fun μ o e h => Hp.up_ne (hbv15 _ e).2 h
    · obtain rfl : k = N := by omega
      rw [List.take_of_length_le (by omega)] at hsl
      refine WC.exit (WC.seq ?_)
      obtain ⟨B9, n9, c9, rfl⟩ : ∃ A n c, v = .slice A n c := by
        rcases hsl with ⟨rfl, _, _⟩ | ⟨ν, c, ws, rfl, _⟩ <;> exact ⟨_, _, _, rfl⟩
      refine WC.region ?_
      refine WO.cons ?_ (by decide)
      refine SV.loadMA (l := [.int .i64 (x0 / 64), .int .i64 (y0 / 64), .int .i64 w, .int .i64 h, .slice B9 n9 c9]) hM12 rfl h129 rfl (fun i v hv => by rw [Nat.zero_add]; exact hv) ?_
      have h124 := hEc12 _ _ hc4
      refine WO.cons0 (SV.storeMA (by assumption) rfl rfl rfl rfl (by assumption) (by (simp; done)) (fun s16_1 hn16_1 hM16_1 => ?_))
      refine WO.cons (SV.assignV (by constructor) ?_) (by decide)
      refine WO.nil ?_
      refine WC.ret ?_
      change FinM Try.prog ro s.next Try.f25 _ Ex.ret _ [] _
      have hfm : fillM p = ⟨x0 / 64, y0 / 64, w, h, coverM p, 0⟩ := by unfold fillM; rw [if_neg (fun h => h hc), if_neg (by rw [hso]; decide), if_neg (by omega), ← hx0, ← hy0, hwm, hhm]
      rw [hfm, hcv]
      dsimp only
      have hb4 : baseV (Value.slice B9 n9 c9) ≠ some a0_0 := fun e => by have := (hbv _ e).1; rw [hc4] at this; cases this
      refine fin_cellT (e := .ret) (es := 0) (vs := [.int .i64 (x0 / 64), .int .i64 (y0 / 64), .int .i64 w, .int .i64 h, .slice B9 n9 c9]) rfl trivial rfl Hp.up_same rfl rfl (by omega) hM16_1 (hM16_1.sub (H' := fun μ => if μ = a0_0 then none else H12 μ) fun ν o e => ?_) ⟨.slice B9 n9 c9, rfl, ?_, fun ν o e => ?_⟩
      · by_cases hb : ν = a0_0
        · simp only [hb, if_true] at e; cases e
        · simp only [hb, if_false] at e; exact Hp.up_ne hb e
      · rw [List.length_map, hKl]
        exact slO_ext hsl fun μ o e h => by
          have : μ ≠ a0_0 := fun h => hb4 (by rw [e, h])
          simp only [this, if_false]; exact h
      · have : ν ≠ a0_0 := fun h => by rw [h, hf4] at e; cases e
        simp only [this, if_false]; exact hEc12 _ _ (hEHc _ _ e)
end Go.Proofs.Ytmlplblhabdbpaa

namespace Go.Proofs.Ytmlplblhabdbpaa
open Go.Ab
variable {X : CallE} {ro : Nat}
set_option maxRecDepth 10000
set_option linter.unusedVariables false
set_option linter.unusedSimpArgs false

theorem slO_form {H : Hp} {v : Value} {sz n : Nat} {vs : List Value} (h : SlO H v sz n vs) : ∃ A c, v = .slice A n c := by
  rcases h with ⟨rfl, rfl, _⟩ | ⟨ν, c, ws, rfl, _⟩ <;> exact ⟨_, _, rfl⟩
theorem slO_ne {H : Hp} {v : Value} {sz n a es : Nat} {vs ws : List Value} (h : SlO H v sz n vs) (ha : H a = some (.row es ws)) (hne : es ≠ sz) : baseV v ≠ some a := fun e => by
  rcases h with ⟨rfl, _, _⟩ | ⟨ν, c, ws, rfl, h1, _⟩
  · cases e
  · cases e; rw [ha] at h1; cases h1; exact hne rfl
theorem tmod64 (n : Int) : n.tmod 64 = if 0 ≤ n then n % 64 else -((-n) % 64) := by
  split
  · exact Int.tmod_eq_emod_of_nonneg (by assumption)
  · have := Int.neg_tmod (-n) 64
    rw [Int.neg_neg] at this
    rw [this, Int.tmod_eq_emod_of_nonneg (by omega)]
theorem down_eq {n m : Int} (h : m = n % 64) : (n - m).tdiv 64 = n / 64 := by
  have : n - m = 64 * (n / 64) := by omega
  rw [this, Int.mul_tdiv_cancel_left _ (by decide)]
/-- raster.Fill. -/
theorem fillC_sp {s : St} {H : Hp} {A : Option Addr} {cp : Nat} {p : List (List Spt)} {SM : List Cr → List Cr} (hX : OwnX X) (hE : ExtOk X ro SM) (hM : Models ro s H) (hp : PolyH H A p) (hb : p.length ≤ 1000000000000) (hbig : totM p ≤ 1000000000000) :
    Sp X Try.prog ro 11 [.slice A p.length cp] s fun v H' => ∃ cv, v = .tuple #[.agg #[.int .i64 (fillM p).X, .int .i64 (fillM p).Y, .int .i64 (fillM p).W, .int .i64 (fillM p).H, cv], .int .i64 (fillM p).err] ∧
      SlO H' cv 1 (fillM p).cov.length ((fillM p).cov.map (.int .u8)) ∧ Ext H H' := by
  refine Sp.of_body (hX _ _ _ (by decide) (by decide) (by decide) (by decide)) Try.func11 rfl Try.ntmps11 (by simp) ?_
  refine WC.seq ?_
  refine WC.region ?_
  refine WO.cons (SV.allocM (by assumption) (fun a0_0 s0_0 hf0_0 hne0_0 hn0_0 hM0_0 => ?_)) (by decide)
  refine WO.cons (SV.assignV (by constructor) ?_) (by decide)
  refine WO.nil ?_
  replace hM0_0 : Models ro s0_0 (H.up a0_0 (.row 0 [.int .i64 0, .int .i64 0, .int .i64 0, .int .i64 0, .slice none 0 0])) := hM0_0
  have hE0 : Ext H (H.up a0_0 (.row 0 [.int .i64 0, .int .i64 0, .int .i64 0, .int .i64 0, .slice none 0 0])) := ext_up hne0_0
  have h40 : (H.up a0_0 (.row 0 [.int .i64 0, .int .i64 0, .int .i64 0, .int .i64 0, .slice none 0 0])) a0_0 = some (.row 0 [.int .i64 0, .int .i64 0, .int .i64 0, .int .i64 0, .slice none 0 0]) := Hp.up_same
  have hf4 : H a0_0 = none := hf0_0
  obtain ⟨H0, hH0⟩ : ∃ H0 : Hp, H0 = H.up a0_0 (.row 0 [.int .i64 0, .int .i64 0, .int .i64 0, .int .i64 0, .slice none 0 0]) := ⟨_, rfl⟩
  rw [← hH0] at hM0_0 hE0 h40
  refine WC.seq ?_
  refine WC.region ?_
  refine WO.cons (SV.moveV (by constructor) ?_) (by decide)
  refine WO.cons ?_ (by decide)
  refine SV.callM rfl rfl (masked_sp hX hE hM0_0 (hp.ext hE0) hb hbig) ?_
  rintro v s1 H1 hn1 hM1 ⟨cv, rfl, hcv, hE1⟩
  obtain ⟨B9, c9, rfl⟩ := slO_form hcv
  have h14 := hE1 _ _ h40
  refine WO.cons (SV.extract rfl rfl ?_) (by decide)
  refine WO.cons (SV.extract rfl rfl ?_) (by decide)
  refine WO.cons0 ?_
  refine SV.storeMA hM1 rfl rfl rfl rfl h14 (by simp) (fun s1_4 hn1_4 hM1_4 => ?_)
  refine WO.cons (SV.assignV (by constructor) ?_) (by decide)
  refine WO.nil ?_
  refine WC.ret ?_
  change FinM Try.prog ro s.next Try.f11 _ Ex.ret _ [] _
  have hb4 : baseV (Value.slice B9 (fillM p).cov.length c9) ≠ some a0_0 := fun e => slO_ne hcv h14 (by decide) e
  refine fin_cellT (e := .ret) (es := 0) (vs := [.int .i64 (fillM p).X, .int .i64 (fillM p).Y, .int .i64 (fillM p).W, .int .i64 (fillM p).H, .slice B9 (fillM p).cov.length c9]) rfl trivial rfl Hp.up_same rfl rfl (by omega) hM1_4 (hM1_4.sub (H' := fun μ => if μ = a0_0 then none else H1 μ) fun ν o e => ?_) ⟨.slice B9 _ c9, rfl, ?_, fun ν o e => ?_⟩
  · by_cases hb : ν = a0_0
    · simp only [hb, if_true] at e; cases e
    · simp only [hb, if_false] at e; exact Hp.up_ne hb e
  · exact slO_ext hcv fun μ o e h => by
      have : μ ≠ a0_0 := fun h => hb4 (by rw [e, h])
      simp only [this, if_false]; exact h
  · have : ν ≠ a0_0 := fun h => by rw [h, hf4] at e; cases e
    simp only [this, if_false]; exact hE1 _ _ (hE0 _ _ e)
/-- serifref21.Down. -/
theorem down_sp {s : St} {H : Hp} {n : Int} (hX : OwnX X) (hM : Models ro s H) (hn : -4294967296 ≤ n ∧ n ≤ 4294967296) : Sp X Try.prog ro 16 [.int .i64 n] s fun v H' => v = .int .i64 (n / 64) ∧ H' = H := by
  refine Sp.of_body (hX _ _ _ (by decide) (by decide) (by decide) (by decide)) Try.func16 rfl Try.ntmps16 (by simp) ?_
  refine WC.seq ?_
  refine WC.region ?_
  refine WO.cons (SV.assignV (by constructor) ?_) (by decide)
  refine WO.nil ?_
  refine WC.seq ?_
  refine WC.region ?_
  refine WO.cons (SV.moveV (by constructor) ?_) (by decide)
  refine WO.cons (SV.rem rfl rfl (by omega) ?_) (by decide)
  refine WO.cons (SV.assignV (by constructor) ?_) (by decide)
  refine WO.nil ?_
  refine WC.seq (WC.seq ?_)
  refine WC.region ?_
  refine WO.cons (SV.moveV (by constructor) ?_) (by decide)
  refine WO.cons (SV.lss rfl rfl ?_) (by decide)
  refine WO.nil ?_
  have hm := tmod64 n
  generalize n.tmod 64 = m at *
  refine WC.condD rfl (fun hlt hltb => ?_) (fun hlt hltb => ?_)
  · skip
    refine WC.region ?_
    refine WO.cons (SV.moveV (by constructor) ?_) (by decide)
    refine WO.cons (SV.add64 rfl rfl (by omega) ?_) (by decide)
    refine WO.cons (SV.assignV (by constructor) ?_) (by decide)
    refine WO.nil ?_
    have he : (n - (m + 64)).tdiv 64 = n / 64 := down_eq (by by_cases h0 : 0 ≤ n <;> simp only [h0, if_true, if_false] at hm <;> omega)
    refine WC.seq ?_
    refine WC.region ?_
    refine WO.cons (SV.moveV (by constructor) ?_) (by decide)
    refine WO.cons (SV.moveV (by constructor) ?_) (by decide)
    refine WO.cons (SV.sub64 rfl rfl (by omega) ?_) (by decide)
    refine WO.cons (SV.quo64 rfl rfl (by omega) (by omega) ?_) (by decide)
    refine WO.cons (SV.assignV (by constructor) ?_) (by decide)
    refine WO.nil ?_
    refine WC.ret ?_
    exact fin_one (e := .ret) (v := .int .i64 _) rfl trivial rfl (by omega) hM ⟨by rw [he], rfl⟩
  · have he : (n - m).tdiv 64 = n / 64 := down_eq (by by_cases h0 : 0 ≤ n <;> simp only [h0, if_true, if_false] at hm <;> omega)
    refine WC.skip (WC.seq ?_)
    refine WC.region ?_
    refine WO.cons (SV.moveV (by constructor) ?_) (by decide)
    refine WO.cons (SV.moveV (by constructor) ?_) (by decide)
    refine WO.cons (SV.sub64 rfl rfl (by omega) ?_) (by decide)
    refine WO.cons (SV.quo64 rfl rfl (by omega) (by omega) ?_) (by decide)
    refine WO.cons (SV.assignV (by constructor) ?_) (by decide)
    refine WO.nil ?_
    refine WC.ret ?_
    exact fin_one (e := .ret) (v := .int .i64 _) rfl trivial rfl (by omega) hM ⟨by rw [he], rfl⟩
end Go.Proofs.Ytmlplblhabdbpaa

namespace Go.Proofs.Ytmlplblhabdbpaa
open Go.Ab
variable {X : CallE} {ro : Nat}
set_option maxRecDepth 10000
set_option linter.unusedVariables false
set_option linter.unusedSimpArgs false

set_option maxHeartbeats 1000000 in
/-- serifref06.Hull. -/
theorem hull_sp {s : St} {H : Hp} {v : Value} {l : List Spt} (hX : OwnX X) (hM : Models ro s H) (hv : SlO H v 2 l.length (l.flatMap encS)) (hl : l.length ≤ 1000000000000) :
    Sp X Try.prog ro 15 [v] s fun r H' => r = .tuple #[.agg #[.int .i64 (l.foldl addB ⟨0, 0, 0, 0, false⟩).x0, .int .i64 (l.foldl addB ⟨0, 0, 0, 0, false⟩).y0, .int .i64 (l.foldl addB ⟨0, 0, 0, 0, false⟩).x1, .int .i64 (l.foldl addB ⟨0, 0, 0, 0, false⟩).y1], .bool (decide (0 < (l.length : Int)))] ∧ H' = H := by
  refine Sp.of_body (hX _ _ _ (by decide) (by decide) (by decide) (by decide)) Try.func15 rfl Try.ntmps15 (by simp) ?_
  refine WC.seq ?_
  refine WC.region ?_
  refine WO.cons (SV.allocM (by assumption) (fun a0_0 s0_0 hf0_0 hne0_0 hn0_0 hM0_0 => ?_)) (by decide)
  refine WO.cons (SV.assignV (by constructor) ?_) (by decide)
  refine WO.nil ?_
  replace hM0_0 : Models ro s0_0 (H.up a0_0 (.row 0 [.int .i64 0, .int .i64 0, .int .i64 0, .int .i64 0])) := hM0_0
  have hE0 : Ext H (H.up a0_0 (.row 0 [.int .i64 0, .int .i64 0, .int .i64 0, .int .i64 0])) := ext_up hne0_0
  have h02 : (H.up a0_0 (.row 0 [.int .i64 0, .int .i64 0, .int .i64 0, .int .i64 0])) a0_0 = some (.row 0 [.int .i64 0, .int .i64 0, .int .i64 0, .int .i64 0]) := Hp.up_same
  generalize H.up a0_0 (.row 0 [.int .i64 0, .int .i64 0, .int .i64 0, .int .i64 0]) = H0 at *
  refine WC.seq ?_
  refine WC.region ?_
  refine WO.cons (SV.build rfl ?_) (by decide)
  refine WO.cons (SV.allocM (by assumption) (fun a1_1 s1_1 hf1_1 hne1_1 hn1_1 hM1_1 => ?_)) (by decide)
  refine WO.cons0 (SV.storeMA (by assumption) rfl rfl rfl rfl (by exact Hp.up_same) (by (simp only [List.length_map]; omega)) (fun s1_2 hn1_2 hM1_2 => ?_))
  refine WO.nil ?_
  rw [Hp.up_up] at hM1_2
  replace hM1_2 : Models ro s1_2 (H0.up a1_1 (.row 0 [.int .i64 0, .int .i64 0, .int .i64 0, .int .i64 0])) := hM1_2
  have hne : a0_0 ≠ a1_1 := hne1_1 _ _ h02
  refine WC.seq (WC.seq ?_)
  refine WC.region ?_
  refine WO.cons (SV.move ?_) (by decide)
  refine WO.cons (SV.lenO rfl rfl (by assumption) ?_) (by decide)
  refine WO.cons (SV.moveV (by constructor) ?_) (by decide)
  refine WO.nil ?_
  refine WC.block ?_
  refine WC.loop (D := Nat × Bx) (fun x => [(0, v), (2, .pointer (some ⟨a0_0, 0, none⟩)), (4, .pointer (some ⟨a1_1, 0, none⟩)), (8, v), (9, .int .i64 l.length), (10, .int .i64 x.1)])
    (fun x s1 => s.next ≤ s1.next ∧ Models ro s1 (H0.up a1_1 (.row 0 [.int .i64 x.2.x0, .int .i64 x.2.y0, .int .i64 x.2.x1, .int .i64 x.2.y1])) ∧ x.1 ≤ l.length ∧ x.2.so = decide (0 < x.1) ∧ (l.drop x.1).foldl addB x.2 = l.foldl addB ⟨0, 0, 0, 0, false⟩) (fun x => l.length - x.1) (0, ⟨0, 0, 0, 0, false⟩) ?_ ⟨by omega, hM1_2, Nat.zero_le _, rfl, rfl⟩ ?_
  · exact ⟨rfl, rfl, rfl, rfl, rfl, rfl, trivial⟩
  rintro ⟨k, b⟩ g s1 ⟨hn1, hM1, hk, hso, e1⟩
  dsimp only at hM1 hk hso e1 ⊢
  obtain ⟨x0, y0, x1, y1, so⟩ := b
  dsimp only at hM1 hso
  refine WC.seq ?_
  refine WC.region ?_
  refine WO.cons (SV.lss rfl rfl ?_) (by decide)
  refine WO.nil ?_
  refine WC.seq ?_
  refine WC.condD rfl (fun hlt hltb => ?_) (fun hlt hltb => ?_)
  · obtain ⟨q, hq, hdr⟩ := drop_cons (L := l) (i := k) (by omega)
    rw [hdr, List.foldl_cons] at e1
    obtain ⟨ν, cv, rfl⟩ := hv.nonnil (by omega)
    have hEb : Ext H (H0.up a1_1 (.row 0 [.int .i64 x0, .int .i64 y0, .int .i64 x1, .int .i64 y1])) := hE0.up fun ν o e => hne1_1 ν o (hE0 ν o e)
    have hv1 := slO_ext hv fun μ o _ e => hEb μ o e
    have h11 : (H0.up a1_1 (.row 0 [.int .i64 x0, .int .i64 y0, .int .i64 x1, .int .i64 y1])) a1_1 = some (.row 0 [.int .i64 x0, .int .i64 y0, .int .i64 x1, .int .i64 y1]) := Hp.up_same
    obtain ⟨px, py⟩ := q
    refine WC.skip (WC.seq (WC.block (WC.seq ?_)))
    refine WC.region ?_
    refine WO.cons (SV.moveV (by constructor) ?_) (by decide)
    refine WO.cons (SV.indexAddr rfl rfl (by omega) ?_) (by decide)
    refine WO.cons ?_ (by decide)
    refine SV.loadSl hM1 rfl hv1 encS_len rfl hq (by omega) ?_
    refine WO.cons (SV.allocM (by assumption) (fun a4_3 s4_3 hf4_3 hne4_3 hn4_3 hM4_3 => ?_)) (by decide)
    refine WO.cons (SV.assignV (by constructor) ?_) (by decide)
    refine WO.cons0 (SV.storeMA (by assumption) rfl rfl rfl rfl (by exact Hp.up_same) (by exact Nat.le_refl _) (fun s4_5 hn4_5 hM4_5 => ?_))
    refine WO.nil ?_
    rw [Hp.up_up] at hM4_5
    replace hM4_5 : Models ro s4_5 ((H0.up a1_1 (.row 0 [.int .i64 x0, .int .i64 y0, .int .i64 x1, .int .i64 y1])).up a4_3 (.row 0 [.int .i64 px, .int .i64 py])) := hM4_5
    have hne4 : a4_3 ≠ a1_1 := Ne.symm (hne4_3 _ _ h11)
    obtain ⟨H4, hH4⟩ : ∃ H4 : Hp, H4 = (H0.up a1_1 (.row 0 [.int .i64 x0, .int .i64 y0, .int .i64 x1, .int .i64 y1])).up a4_3 (.row 0 [.int .i64 px, .int .i64 py]) := ⟨_, rfl⟩
    rw [← hH4] at hM4_5
    have h43 : H4 a4_3 = some (.row 0 [.int .i64 px, .int .i64 py]) := by rw [hH4]; exact Hp.up_same
    have h41 : H4 a1_1 = some (.row 0 [.int .i64 x0, .int .i64 y0, .int .i64 x1, .int .i64 y1]) := by rw [hH4]; exact Hp.up_ne (Ne.symm hne4) Hp.up_same
    have hX4 : ∀ ν o, ν ≠ a1_1 → H0 ν = some o → H4 ν = some o := fun ν o h e => by rw [hH4]; exact Hp.up_ne (hne4_3 _ _ (Hp.up_ne h e)) (Hp.up_ne h e)
    rw [← Hp.up_self h41] at hM4_5
    have hM5 := hM4_5
    have hn5 : s.next ≤ s4_5.next := by omega
    clear hM4_5 hH4
    generalize s4_5 = s5 at *
    refine WC.seq (WC.seq ?_)
    refine WC.mono (Q := fun e' g' ds' s' => e' = .normal ∧ ds' = [] ∧ holds g' [(2, .pointer (some ⟨a0_0, 0, none⟩)), (4, .pointer (some ⟨a1_1, 0, none⟩)), (0, .slice (some ⟨ν, 0, none⟩) l.length cv), (8, .slice (some ⟨ν, 0, none⟩) l.length cv), (9, .int .i64 l.length), (10, .int .i64 k), (5, .int .i64 k), (6, .pointer (some ⟨a4_3, 0, none⟩)), (23, .bool (decide ((k : Int) = 0 ∨ px < x0)))] ∧ s' = s5) ?_ ?_
    · by_cases h1 : (k : Int) = 0
      · have hd1 : decide ((k : Int) = 0) = true := decide_eq_true h1
        rw [show decide ((k : Int) = 0 ∨ px < x0) = true by simp [h1]]
        refine WC.region ?_
        refine WO.cons (SV.moveV (by constructor) ?_) (by decide)
        refine WO.cons (SV.eqlI rfl rfl ?_) (by decide)
        refine WO.cons (SV.moveV (by constructor) ?_) (by decide)
        refine WO.guardN rfl rfl rfl (by assumption) ?_ (by decide)
        all_goals (refine WO.guardN rfl rfl rfl (by assumption) ?_ (by decide))
        all_goals (refine WO.guardN rfl rfl rfl (by assumption) ?_ (by decide))
        all_goals (refine WO.guardN rfl rfl rfl (by assumption) ?_ (by decide))
        all_goals (refine WO.guardN rfl rfl rfl (by assumption) ?_ (by decide))
        all_goals (refine WO.cons (SV.pickTV rfl (by assumption) (by constructor) ?_) (by decide))
        all_goals refine WO.nil ?_
        exact ⟨rfl, rfl, ⟨rfl, rfl, rfl, rfl, rfl, rfl, rfl, rfl, rfl, trivial⟩, rfl⟩
      · have hd1 : decide ((k : Int) = 0) = false := decide_eq_false h1
        rw [show decide ((k : Int) = 0 ∨ px < x0) = decide (px < x0) from decide_eq_decide.mpr ⟨fun h => h.resolve_left h1, .inr⟩]
        refine WC.region ?_
        refine WO.cons (SV.moveV (by constructor) ?_) (by decide)
        refine WO.cons (SV.eqlI rfl rfl ?_) (by decide)
        refine WO.cons (SV.moveV (by constructor) ?_) (by decide)
        refine WO.guardY rfl rfl rfl (by assumption) (SV.fieldAddr rfl ?_) (by decide)
        all_goals (refine WO.guardY rfl rfl rfl (by assumption) (SV.loadM (by assumption) rfl (by exact Hp.up_ne (by assumption) (by assumption)) (by rfl) ?_) (by decide))
        all_goals (refine WO.guardY rfl rfl rfl (by assumption) (SV.fieldAddr rfl ?_) (by decide))
        all_goals (refine WO.guardY rfl rfl rfl (by assumption) (SV.loadM (by assumption) rfl (by exact Hp.up_same) (by rfl) ?_) (by decide))
        all_goals (refine WO.guardY rfl rfl rfl (by assumption) (SV.lss rfl rfl ?_) (by decide))
        all_goals (refine WO.cons (SV.pickFV rfl (by assumption) (by constructor) ?_) (by decide))
        all_goals refine WO.nil ?_
        exact ⟨rfl, rfl, ⟨rfl, rfl, rfl, rfl, rfl, rfl, rfl, rfl, rfl, trivial⟩, rfl⟩
    rintro e' g6 ds6 s6 ⟨rfl, rfl, hg6, rfl⟩
    rw [← over_same hg6]
    refine thn_n ?_
    refine WC.mono (Q := fun e' g' ds' s' => e' = .normal ∧ ds' = [] ∧ holds g' [(2, .pointer (some ⟨a0_0, 0, none⟩)), (4, .pointer (some ⟨a1_1, 0, none⟩)), (0, .slice (some ⟨ν, 0, none⟩) l.length cv), (8, .slice (some ⟨ν, 0, none⟩) l.length cv), (9, .int .i64 l.length), (10, .int .i64 k), (5, .int .i64 k), (6, .pointer (some ⟨a4_3, 0, none⟩))] ∧ s6.next ≤ s'.next ∧ Models ro s' (H4.up a1_1 (.row 0 [.int .i64 (if (k : Int) = 0 ∨ px < x0 then px else x0), .int .i64 y0, .int .i64 x1, .int .i64 y1]))) ?_ ?_
    · by_cases h1 : ((k : Int) = 0 ∨ px < x0)
      · have hd1 : decide ((k : Int) = 0 ∨ px < x0) = true := decide_eq_true h1
        simp only [if_pos h1]
        refine WC.condT rfl (by assumption) ?_
        refine WC.region ?_
        refine WO.cons (SV.fieldAddr rfl ?_) (by decide)
        refine WO.cons (SV.loadM (by assumption) rfl (by exact Hp.up_ne (by assumption) (by assumption)) (by rfl) ?_) (by decide)
        refine WO.cons (SV.fieldAddr rfl ?_) (by decide)
        refine WO.cons0 (SV.storeV (by assumption) rfl (by constructor) (by exact Hp.up_same) (by (simp; done)) (fun s6_3 hn6_3 hM6_3 => ?_))
        refine WO.nil ?_
        rw [Hp.up_up] at hM6_3
        exact ⟨rfl, rfl, ⟨rfl, rfl, rfl, rfl, rfl, rfl, rfl, rfl, trivial⟩, by omega, hM6_3⟩
      · have hd1 : decide ((k : Int) = 0 ∨ px < x0) = false := decide_eq_false h1
        simp only [if_neg h1]
        refine WC.condF rfl (by assumption) (WC.skip ?_)
        exact ⟨rfl, rfl, ⟨rfl, rfl, rfl, rfl, rfl, rfl, rfl, rfl, trivial⟩, by omega, hM5⟩
    rintro e' g7 ds7 s5 ⟨rfl, rfl, hg7, hn5, hM5⟩
    rw [← over_same hg7]
    obtain ⟨u0, hu0⟩ : ∃ z : Int, z = (if (k : Int) = 0 ∨ px < x0 then px else x0) := ⟨_, rfl⟩
    rw [← hu0] at hM5
    refine thn_n ?_
    refine WC.seq (WC.seq ?_)
    refine WC.mono (Q := fun e' g' ds' s' => e' = .normal ∧ ds' = [] ∧ holds g' [(2, .pointer (some ⟨a0_0, 0, none⟩)), (4, .pointer (some ⟨a1_1, 0, none⟩)), (0, .slice (some ⟨ν, 0, none⟩) l.length cv), (8, .slice (some ⟨ν, 0, none⟩) l.length cv), (9, .int .i64 l.length), (10, .int .i64 k), (5, .int .i64 k), (6, .pointer (some ⟨a4_3, 0, none⟩)), (35, .bool (decide ((k : Int) = 0 ∨ py < y0)))] ∧ s' = s5) ?_ ?_
    · by_cases h1 : (k : Int) = 0
      · have hd1 : decide ((k : Int) = 0) = true := decide_eq_true h1
        rw [show decide ((k : Int) = 0 ∨ py < y0) = true by simp [h1]]
        refine WC.region ?_
        refine WO.cons (SV.moveV (by constructor) ?_) (by decide)
        refine WO.cons (SV.eqlI rfl rfl ?_) (by decide)
        refine WO.cons (SV.moveV (by constructor) ?_) (by decide)
        refine WO.guardN rfl rfl rfl (by assumption) ?_ (by decide)
        all_goals (refine WO.guardN rfl rfl rfl (by assumption) ?_ (by decide))
        all_goals (refine WO.guardN rfl rfl rfl (by assumption) ?_ (by decide))
        all_goals (refine WO.guardN rfl rfl rfl (by assumption) ?_ (by decide))
        all_goals (refine WO.guardN rfl rfl rfl (by assumption) ?_ (by decide))
        all_goals (refine WO.cons (SV.pickTV rfl (by assumption) (by constructor) ?_) (by decide))
        all_goals refine WO.nil ?_
        exact ⟨rfl, rfl, ⟨rfl, rfl, rfl, rfl, rfl, rfl, rfl, rfl, rfl, trivial⟩, rfl⟩
      · have hd1 : decide ((k : Int) = 0) = false := decide_eq_false h1
        rw [show decide ((k : Int) = 0 ∨ py < y0) = decide (py < y0) from decide_eq_decide.mpr ⟨fun h => h.resolve_left h1, .inr⟩]
        refine WC.region ?_
        refine WO.cons (SV.moveV (by constructor) ?_) (by decide)
        refine WO.cons (SV.eqlI rfl rfl ?_) (by decide)
        refine WO.cons (SV.moveV (by constructor) ?_) (by decide)
        refine WO.guardY rfl rfl rfl (by assumption) (SV.fieldAddr rfl ?_) (by decide)
        all_goals (refine WO.guardY rfl rfl rfl (by assumption) (SV.loadM (by assumption) rfl (by exact Hp.up_ne (by assumption) (by assumption)) (by rfl) ?_) (by decide))
        all_goals (refine WO.guardY rfl rfl rfl (by assumption) (SV.fieldAddr rfl ?_) (by decide))
        all_goals (refine WO.guardY rfl rfl rfl (by assumption) (SV.loadM (by assumption) rfl (by exact Hp.up_same) (by rfl) ?_) (by decide))
        all_goals (refine WO.guardY rfl rfl rfl (by assumption) (SV.lss rfl rfl ?_) (by decide))
        all_goals (refine WO.cons (SV.pickFV rfl (by assumption) (by constructor) ?_) (by decide))
        all_goals refine WO.nil ?_
        exact ⟨rfl, rfl, ⟨rfl, rfl, rfl, rfl, rfl, rfl, rfl, rfl, rfl, trivial⟩, rfl⟩
    rintro e' g6 ds6 s6 ⟨rfl, rfl, hg6, rfl⟩
    rw [← over_same hg6]
    refine thn_n ?_
    refine WC.mono (Q := fun e' g' ds' s' => e' = .normal ∧ ds' = [] ∧ holds g' [(2, .pointer (some ⟨a0_0, 0, none⟩)), (4, .pointer (some ⟨a1_1, 0, none⟩)), (0, .slice (some ⟨ν, 0, none⟩) l.length cv), (8, .slice (some ⟨ν, 0, none⟩) l.length cv), (9, .int .i64 l.length), (10, .int .i64 k), (5, .int .i64 k), (6, .pointer (some ⟨a4_3, 0, none⟩))] ∧ s6.next ≤ s'.next ∧ Models ro s' (H4.up a1_1 (.row 0 [.int .i64 u0, .int .i64 (if (k : Int) = 0 ∨ py < y0 then py else y0), .int .i64 x1, .int .i64 y1]))) ?_ ?_
    · by_cases h1 : ((k : Int) = 0 ∨ py < y0)
      · have hd1 : decide ((k : Int) = 0 ∨ py < y0) = true := decide_eq_true h1
        simp only [if_pos h1]
        refine WC.condT rfl (by assumption) ?_
        refine WC.region ?_
        refine WO.cons (SV.fieldAddr rfl ?_) (by decide)
        refine WO.cons (SV.loadM (by assumption) rfl (by exact Hp.up_ne (by assumption) (by assumption)) (by rfl) ?_) (by decide)
        refine WO.cons (SV.fieldAddr rfl ?_) (by decide)
        refine WO.cons0 (SV.storeV (by assumption) rfl (by constructor) (by exact Hp.up_same) (by (simp; done)) (fun s8_3 hn8_3 hM8_3 => ?_))
        refine WO.nil ?_
        rw [Hp.up_up] at hM8_3
        exact ⟨rfl, rfl, ⟨rfl, rfl, rfl, rfl, rfl, rfl, rfl, rfl, trivial⟩, by omega, hM8_3⟩
      · have hd1 : decide ((k : Int) = 0 ∨ py < y0) = false := decide_eq_false h1
        simp only [if_neg h1]
        refine WC.condF rfl (by assumption) (WC.skip ?_)
        exact ⟨rfl, rfl, ⟨rfl, rfl, rfl, rfl, rfl, rfl, rfl, rfl, trivial⟩, by omega, hM5⟩
    rintro e' g7 ds7 s5 ⟨rfl, rfl, hg7, hn5, hM5⟩
    rw [← over_same hg7]
    obtain ⟨u1, hu1⟩ : ∃ z : Int, z = (if (k : Int) = 0 ∨ py < y0 then py else y0) := ⟨_, rfl⟩
    rw [← hu1] at hM5
    refine thn_n ?_
    refine WC.seq (WC.seq ?_)
    refine WC.mono (Q := fun e' g' ds' s' => e' = .normal ∧ ds' = [] ∧ holds g' [(2, .pointer (some ⟨a0_0, 0, none⟩)), (4, .pointer (some ⟨a1_1, 0, none⟩)), (0, .slice (some ⟨ν, 0, none⟩) l.length cv), (8, .slice (some ⟨ν, 0, none⟩) l.length cv), (9, .int .i64 l.length), (10, .int .i64 k), (5, .int .i64 k), (6, .pointer (some ⟨a4_3, 0, none⟩)), (47, .bool (decide ((k : Int) = 0 ∨ x1 < px)))] ∧ s' = s5) ?_ ?_
    · by_cases h1 : (k : Int) = 0
      · have hd1 : decide ((k : Int) = 0) = true := decide_eq_true h1
        rw [show decide ((k : Int) = 0 ∨ x1 < px) = true by simp [h1]]
        refine WC.region ?_
        refine WO.cons (SV.moveV (by constructor) ?_) (by decide)
        refine WO.cons (SV.eqlI rfl rfl ?_) (by decide)
        refine WO.cons (SV.moveV (by constructor) ?_) (by decide)
        refine WO.guardN rfl rfl rfl (by assumption) ?_ (by decide)
        all_goals (refine WO.guardN rfl rfl rfl (by assumption) ?_ (by decide))
        all_goals (refine WO.guardN rfl rfl rfl (by assumption) ?_ (by decide))
        all_goals (refine WO.guardN rfl rfl rfl (by assumption) ?_ (by decide))
        all_goals (refine WO.guardN rfl rfl rfl (by assumption) ?_ (by decide))
        all_goals (refine WO.cons (SV.pickTV rfl (by assumption) (by constructor) ?_) (by decide))
        all_goals refine WO.nil ?_
        exact ⟨rfl, rfl, ⟨rfl, rfl, rfl, rfl, rfl, rfl, rfl, rfl, rfl, trivial⟩, rfl⟩
      · have hd1 : decide ((k : Int) = 0) = false := decide_eq_false h1
        rw [show decide ((k : Int) = 0 ∨ x1 < px) = decide (x1 < px) from decide_eq_decide.mpr ⟨fun h => h.resolve_left h1, .inr⟩]
        refine WC.region ?_
        refine WO.cons (SV.moveV (by constructor) ?_) (by decide)
        refine WO.cons (SV.eqlI rfl rfl ?_) (by decide)
        refine WO.cons (SV.moveV (by constructor) ?_) (by decide)
        refine WO.guardY rfl rfl rfl (by assumption) (SV.fieldAddr rfl ?_) (by decide)
        all_goals (refine WO.guardY rfl rfl rfl (by assumption) (SV.loadM (by assumption) rfl (by exact Hp.up_ne (by assumption) (by assumption)) (by rfl) ?_) (by decide))
        all_goals (refine WO.guardY rfl rfl rfl (by assumption) (SV.fieldAddr rfl ?_) (by decide))
        all_goals (refine WO.guardY rfl rfl rfl (by assumption) (SV.loadM (by assumption) rfl (by exact Hp.up_same) (by rfl) ?_) (by decide))
        all_goals (refine WO.guardY rfl rfl rfl (by assumption) (SV.gtr rfl rfl ?_) (by decide))
        all_goals (refine WO.cons (SV.pickFV rfl (by assumption) (by constructor) ?_) (by decide))
        all_goals refine WO.nil ?_
        exact ⟨rfl, rfl, ⟨rfl, rfl, rfl, rfl, rfl, rfl, rfl, rfl, rfl, trivial⟩, rfl⟩
    rintro e' g6 ds6 s6 ⟨rfl, rfl, hg6, rfl⟩
    rw [← over_same hg6]
    refine thn_n ?_
    refine WC.mono (Q := fun e' g' ds' s' => e' = .normal ∧ ds' = [] ∧ holds g' [(2, .pointer (some ⟨a0_0, 0, none⟩)), (4, .pointer (some ⟨a1_1, 0, none⟩)), (0, .slice (some ⟨ν, 0, none⟩) l.length cv), (8, .slice (some ⟨ν, 0, none⟩) l.length cv), (9, .int .i64 l.length), (10, .int .i64 k), (5, .int .i64 k), (6, .pointer (some ⟨a4_3, 0, none⟩))] ∧ s6.next ≤ s'.next ∧ Models ro s' (H4.up a1_1 (.row 0 [.int .i64 u0, .int .i64 u1, .int .i64 (if (k : Int) = 0 ∨ x1 < px then px else x1), .int .i64 y1]))) ?_ ?_
    · by_cases h1 : ((k : Int) = 0 ∨ x1 < px)
      · have hd1 : decide ((k : Int) = 0 ∨ x1 < px) = true := decide_eq_true h1
        simp only [if_pos h1]
        refine WC.condT rfl (by assumption) ?_
        refine WC.region ?_
        refine WO.cons (SV.fieldAddr rfl ?_) (by decide)
        refine WO.cons (SV.loadM (by assumption) rfl (by exact Hp.up_ne (by assumption) (by assumption)) (by rfl) ?_) (by decide)
        refine WO.cons (SV.fieldAddr rfl ?_) (by decide)
        refine WO.cons0 (SV.storeV (by assumption) rfl (by constructor) (by exact Hp.up_same) (by (simp; done)) (fun s10_3 hn10_3 hM10_3 => ?_))
        refine WO.nil ?_
        rw [Hp.up_up] at hM10_3
        exact ⟨rfl, rfl, ⟨rfl, rfl, rfl, rfl, rfl, rfl, rfl, rfl, trivial⟩, by omega, hM10_3⟩
      · have hd1 : decide ((k : Int) = 0 ∨ x1 < px) = false := decide_eq_false h1
        simp only [if_neg h1]
        refine WC.condF rfl (by assumption) (WC.skip ?_)
        exact ⟨rfl, rfl, ⟨rfl, rfl, rfl, rfl, rfl, rfl, rfl, rfl, trivial⟩, by omega, hM5⟩
    rintro e' g7 ds7 s5 ⟨rfl, rfl, hg7, hn5, hM5⟩
    rw [← over_same hg7]
    obtain ⟨u2, hu2⟩ : ∃ z : Int, z = (if (k : Int) = 0 ∨ x1 < px then px else x1) := ⟨_, rfl⟩
    rw [← hu2] at hM5
    refine thn_n ?_
    refine WC.seq ?_
    refine WC.mono (Q := fun e' g' ds' s' => e' = .normal ∧ ds' = [] ∧ holds g' [(2, .pointer (some ⟨a0_0, 0, none⟩)), (4, .pointer (some ⟨a1_1, 0, none⟩)), (0, .slice (some ⟨ν, 0, none⟩) l.length cv), (8, .slice (some ⟨ν, 0, none⟩) l.length cv), (9, .int .i64 l.length), (10, .int .i64 k), (5, .int .i64 k), (6, .pointer (some ⟨a4_3, 0, none⟩)), (59, .bool (decide ((k : Int) = 0 ∨ y1 < py)))] ∧ s' = s5) ?_ ?_
    · by_cases h1 : (k : Int) = 0
      · have hd1 : decide ((k : Int) = 0) = true := decide_eq_true h1
        rw [show decide ((k : Int) = 0 ∨ y1 < py) = true by simp [h1]]
        refine WC.region ?_
        refine WO.cons (SV.moveV (by constructor) ?_) (by decide)
        refine WO.cons (SV.eqlI rfl rfl ?_) (by decide)
        refine WO.cons (SV.moveV (by constructor) ?_) (by decide)
        refine WO.guardN rfl rfl rfl (by assumption) ?_ (by decide)
        all_goals (refine WO.guardN rfl rfl rfl (by assumption) ?_ (by decide))
        all_goals (refine WO.guardN rfl rfl rfl (by assumption) ?_ (by decide))
        all_goals (refine WO.guardN rfl rfl rfl (by assumption) ?_ (by decide))
        all_goals (refine WO.guardN rfl rfl rfl (by assumption) ?_ (by decide))
        all_goals (refine WO.cons (SV.pickTV rfl (by assumption) (by constructor) ?_) (by decide))
        all_goals refine WO.nil ?_
        exact ⟨rfl, rfl, ⟨rfl, rfl, rfl, rfl, rfl, rfl, rfl, rfl, rfl, trivial⟩, rfl⟩
      · have hd1 : decide ((k : Int) = 0) = false := decide_eq_false h1
        rw [show decide ((k : Int) = 0 ∨ y1 < py) = decide (y1 < py) from decide_eq_decide.mpr ⟨fun h => h.resolve_left h1, .inr⟩]
        refine WC.region ?_
        refine WO.cons (SV.moveV (by constructor) ?_) (by decide)
        refine WO.cons (SV.eqlI rfl rfl ?_) (by decide)
        refine WO.cons (SV.moveV (by constructor) ?_) (by decide)
        refine WO.guardY rfl rfl rfl (by assumption) (SV.fieldAddr rfl ?_) (by decide)
        all_goals (refine WO.guardY rfl rfl rfl (by assumption) (SV.loadM (by assumption) rfl (by exact Hp.up_ne (by assumption) (by assumption)) (by rfl) ?_) (by decide))
        all_goals (refine WO.guardY rfl rfl rfl (by assumption) (SV.fieldAddr rfl ?_) (by decide))
        all_goals (refine WO.guardY rfl rfl rfl (by assumption) (SV.loadM (by assumption) rfl (by exact Hp.up_same) (by rfl) ?_) (by decide))
        all_goals (refine WO.guardY rfl rfl rfl (by assumption) (SV.gtr rfl rfl ?_) (by decide))
        all_goals (refine WO.cons (SV.pickFV rfl (by assumption) (by constructor) ?_) (by decide))
        all_goals refine WO.nil ?_
        exact ⟨rfl, rfl, ⟨rfl, rfl, rfl, rfl, rfl, rfl, rfl, rfl, rfl, trivial⟩, rfl⟩
    rintro e' g6 ds6 s6 ⟨rfl, rfl, hg6, rfl⟩
    rw [← over_same hg6]
    refine thn_n ?_
    refine WC.mono (Q := fun e' g' ds' s' => e' = .normal ∧ ds' = [] ∧ holds g' [(2, .pointer (some ⟨a0_0, 0, none⟩)), (4, .pointer (some ⟨a1_1, 0, none⟩)), (0, .slice (some ⟨ν, 0, none⟩) l.length cv), (8, .slice (some ⟨ν, 0, none⟩) l.length cv), (9, .int .i64 l.length), (10, .int .i64 k), (5, .int .i64 k), (6, .pointer (some ⟨a4_3, 0, none⟩))] ∧ s6.next ≤ s'.next ∧ Models ro s' (H4.up a1_1 (.row 0 [.int .i64 u0, .int .i64 u1, .int .i64 u2, .int .i64 (if (k : Int) = 0 ∨ y1 < py then py else y1)]))) ?_ ?_
    · by_cases h1 : ((k : Int) = 0 ∨ y1 < py)
      · have hd1 : decide ((k : Int) = 0 ∨ y1 < py) = true := decide_eq_true h1
        simp only [if_pos h1]
        refine WC.condT rfl (by assumption) ?_
        refine WC.region ?_
        refine WO.cons (SV.fieldAddr rfl ?_) (by decide)
        refine WO.cons (SV.loadM (by assumption) rfl (by exact Hp.up_ne (by assumption) (by assumption)) (by rfl) ?_) (by decide)
        refine WO.cons (SV.fieldAddr rfl ?_) (by decide)
        refine WO.cons0 (SV.storeV (by assumption) rfl (by constructor) (by exact Hp.up_same) (by (simp; done)) (fun s12_3 hn12_3 hM12_3 => ?_))
        refine WO.nil ?_
        rw [Hp.up_up] at hM12_3
        exact ⟨rfl, rfl, ⟨rfl, rfl, rfl, rfl, rfl, rfl, rfl, rfl, trivial⟩, by omega, hM12_3⟩
      · have hd1 : decide ((k : Int) = 0 ∨ y1 < py) = false := decide_eq_false h1
        simp only [if_neg h1]
        refine WC.condF rfl (by assumption) (WC.skip ?_)
        exact ⟨rfl, rfl, ⟨rfl, rfl, rfl, rfl, rfl, rfl, rfl, rfl, trivial⟩, by omega, hM5⟩
    rintro e' g7 ds7 s5 ⟨rfl, rfl, hg7, hn5, hM5⟩
    rw [← over_same hg7]
    obtain ⟨u3, hu3⟩ : ∃ z : Int, z = (if (k : Int) = 0 ∨ y1 < py then py else y1) := ⟨_, rfl⟩
    rw [← hu3] at hM5
    refine WC.region ?_
    refine WO.cons (SV.add64 rfl rfl (by omega) ?_) (by decide)
    refine WO.cons (SV.moveV (by constructor) ?_) (by decide)
    refine WO.nil ?_
    refine ⟨rfl, (k + 1, addB ⟨x0, y0, x1, y1, so⟩ (px, py)), ⟨rfl, rfl, rfl, rfl, rfl, by show some (Value.int .i64 ((k : Int) + 1)) = _; rfl, trivial⟩, ⟨by omega, ?_, by dsimp only; omega, ?_, e1⟩, by dsimp only; omega⟩
    · have hb : addB ⟨x0, y0, x1, y1, so⟩ (px, py) = ⟨u0, u1, u2, u3, true⟩ := by
        unfold addB minI maxI
        rw [hso, hu0, hu1, hu2, hu3]
        by_cases h0 : k = 0
        · subst h0; rfl
        · have h1 : decide (0 < k) = true := decide_eq_true (by omega)
          have h2 : ¬ (k : Int) = 0 := by omega
          simp only [h1, if_true, h2, false_or]
      rw [hb]
      exact hM5.sub fun ν o e => by
        unfold Hp.up at e ⊢
        by_cases hν : ν = a1_1
        · simp only [hν, if_true] at e ⊢; exact e
        · simp only [hν, if_false] at e ⊢; exact hX4 ν o hν e
    · dsimp only
      rw [show decide (0 < k + 1) = true from decide_eq_true (by omega)]
      unfold addB; split <;> rfl
  · obtain rfl : k = l.length := by omega
    rw [List.drop_length, List.foldl_nil] at e1
    have h11 : (H0.up a1_1 (.row 0 [.int .i64 x0, .int .i64 y0, .int .i64 x1, .int .i64 y1])) a1_1 = some (.row 0 [.int .i64 x0, .int .i64 y0, .int .i64 x1, .int .i64 y1]) := Hp.up_same
    have h12 : (H0.up a1_1 (.row 0 [.int .i64 x0, .int .i64 y0, .int .i64 x1, .int .i64 y1])) a0_0 = some (.row 0 [.int .i64 0, .int .i64 0, .int .i64 0, .int .i64 0]) := Hp.up_ne hne h02
    obtain ⟨vA, vc, rfl⟩ := slO_form hv
    refine WC.exit (WC.seq ?_)
    refine WC.region ?_
    refine WO.cons ?_ (by decide)
    refine SV.loadMA (l := [.int .i64 x0, .int .i64 y0, .int .i64 x1, .int .i64 y1]) hM1 rfl h11 rfl (fun i v hv => by rw [Nat.zero_add]; exact hv) ?_
    refine WO.cons (SV.moveV (by constructor) ?_) (by decide)
    refine WO.cons (SV.len rfl rfl ?_) (by decide)
    refine WO.cons (SV.gtr rfl rfl ?_) (by decide)
    refine WO.cons0 (SV.storeMA (by assumption) rfl rfl rfl rfl (by assumption) (by (simp; done)) (fun s14_4 hn14_4 hM14_4 => ?_))
    refine WO.cons (SV.assignV (by constructor) ?_) (by decide)
    refine WO.nil ?_
    refine WC.ret ?_
    change FinM Try.prog ro s.next Try.f15 _ Ex.ret _ [] _
    rw [← e1]
    refine fin_cellT (e := .ret) (es := 0) (vs := [.int .i64 x0, .int .i64 y0, .int .i64 x1, .int .i64 y1]) rfl trivial rfl Hp.up_same rfl rfl (by omega) hM14_4 (hM14_4.sub (H' := H) fun ν o e => Hp.up_ne (hne0_0 ν o e) (Hp.up_ne (hne1_1 _ _ (hE0 _ _ e)) (hE0 _ _ e))) ⟨rfl, rfl⟩
end Go.Proofs.Ytmlplblhabdbpaa
