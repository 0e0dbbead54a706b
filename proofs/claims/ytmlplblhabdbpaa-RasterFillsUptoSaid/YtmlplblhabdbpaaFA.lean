/- A part of the proof: rules for walking code over the evaluator, and what the functions that were walked come to: no condition but those that each theorem states. -/
import Derived.Test.YtmlplblhabdbpaaUI
import Derived.Test.YtmlplblhabdbpaaLgB
set_option linter.unusedVariables false
set_option linter.unusedSimpArgs false
namespace Go.Proofs.Ytmlplblhabdbpaa
open Go.Ab
variable {X : CallE} {ro : Nat}
set_option maxRecDepth 10000
set_option linter.unusedVariables false
set_option linter.unusedSimpArgs false
/-- A box in the making. -/
structure Bx where
  (x0 y0 x1 y1 : Int)
  so : Bool
def encB (b : Bx) : List Value := [.int .i64 b.x0, .int .i64 b.y0, .int .i64 b.x1, .int .i64 b.y1, .bool b.so]
def minI (a b : Int) : Int := if b < a then b else a
def maxI (a b : Int) : Int := if a < b then b else a
def addB (b : Bx) (s : Spt) : Bx := if b.so = true then ⟨minI b.x0 s.1, minI b.y0 s.2, maxI b.x1 s.1, maxI b.y1 s.2, true⟩ else ⟨s.1, s.2, s.1, s.2, true⟩
theorem minI_self (a : Int) : minI a a = a := by unfold minI; split <;> omega
theorem maxI_self (a : Int) : maxI a a = a := by unfold maxI; split <;> omega
theorem addBox_sp {s : St} {H : Hp} {bx es : Nat} {b : Bx} {x y : Int} (hX : OwnX X) (hM : Models ro s H) (hb : H bx = some (.row es (encB b))) :
    Sp X Try.prog ro 77 [.pointer (some ⟨bx, 0, none⟩), .int .i64 x, .int .i64 y] s fun v H' => v = .tuple #[] ∧ H' = H.up bx (.row es (encB (addB b (x, y)))) := by
  obtain ⟨x0, y0, x1, y1, so⟩ := b
  replace hb : H bx = some (.row es [.int .i64 x0, .int .i64 y0, .int .i64 x1, .int .i64 y1, .bool so]) := hb
  refine Sp.of_body (hX _ _ _ (by decide) (by decide) (by decide) (by decide)) Try.func77 rfl Try.ntmps77 (by simp) ?_
  refine WC.seq (WC.seq ?_)
  refine WC.region ?_
  refine WO.cons (SV.moveV (by constructor) ?_) (by decide)
  refine WO.cons (SV.nilPtr rfl ?_) (by decide)
  refine WO.cons (SV.fieldAddr rfl ?_) (by decide)
  refine WO.cons (SV.loadM (by assumption) rfl (by assumption) (by rfl) ?_) (by decide)
  refine WO.cons (SV.not rfl ?_) (by decide)
  refine WO.nil ?_
  cases so with
  | false =>
    refine WC.condT rfl (by rfl) (WC.seq ?_)
    refine WC.region ?_
    refine WO.cons (SV.moveV (by constructor) ?_) (by decide)
    refine WO.cons (SV.moveV (by constructor) ?_) (by decide)
    refine WO.cons (SV.moveV (by constructor) ?_) (by decide)
    refine WO.cons (SV.moveV (by constructor) ?_) (by decide)
    refine WO.cons (SV.moveV (by constructor) ?_) (by decide)
    refine WO.cons (SV.build rfl ?_) (by decide)
    refine WO.cons (SV.nilPtr rfl ?_) (by decide)
    refine WO.cons (SV.fieldAddr rfl ?_) (by decide)
    refine WO.cons0 (SV.storeMA (by assumption) rfl rfl rfl rfl (by assumption) (by (simp; done)) (fun s1_8 hn1_8 hM1_8 => ?_))
    refine WO.nil ?_
    replace hM1_8 : Models ro s1_8 (H.up bx (.row es [.int .i64 x, .int .i64 y, .int .i64 x, .int .i64 y, .bool false])) := hM1_8
    refine WC.region ?_
    refine WO.cons (SV.moveV (by constructor) ?_) (by decide)
    refine WO.cons (SV.nilPtr rfl ?_) (by decide)
    refine WO.cons (SV.fieldAddr rfl ?_) (by decide)
    refine WO.cons0 (SV.storeV (by assumption) rfl (by constructor) (by exact Hp.up_same) (by (simp; done)) (fun s2_3 hn2_3 hM2_3 => ?_))
    refine WO.nil ?_
    rw [Hp.up_up] at hM2_3
    replace hM2_3 : Models ro s2_3 (H.up bx (.row es [.int .i64 x, .int .i64 y, .int .i64 x, .int .i64 y, .bool true])) := hM2_3
    refine WC.seq ?_
    refine WC.draw [0, 1, 2, 3, 4, 5, 6, 7, 8, 9, 10, 11, 12, 13, 14, 15, 16, 17, 18, 19, 20, 21, 22, 23] (by kernel_rfl) (by kernel_rfl) (by kernel_rfl) ?_
    refine WD.cons (SV.moveV (by constructor) ?_) (by decide)
    refine WD.cons (SV.moveV (by constructor) ?_) (by decide)
    refine WD.cons (SV.moveV (by constructor) ?_) (by decide)
    refine WD.cons (SV.nilPtr rfl ?_) (by decide)
    refine WD.cons (SV.fieldAddr rfl ?_) (by decide)
    refine WD.cons (SV.fieldAddr rfl ?_) (by decide)
    refine WD.cons (SV.loadM (by assumption) rfl (by exact Hp.up_same) (by rfl) ?_) (by decide)
    refine WD.cons (SV.moveV (by constructor) ?_) (by decide)
    refine WD.cons (SV.min2 rfl rfl ?_) (by decide)
    refine WD.cons (SV.moveV (by constructor) ?_) (by decide)
    refine WD.cons (SV.nilPtr rfl ?_) (by decide)
    refine WD.cons (SV.fieldAddr rfl ?_) (by decide)
    refine WD.cons (SV.fieldAddr rfl ?_) (by decide)
    refine WD.cons (SV.loadM (by assumption) rfl (by exact Hp.up_same) (by rfl) ?_) (by decide)
    refine WD.cons (SV.moveV (by constructor) ?_) (by decide)
    refine WD.cons (SV.min2 rfl rfl ?_) (by decide)
    refine WD.cons (SV.nilPtr rfl ?_) (by decide)
    refine WD.cons (SV.fieldAddr rfl ?_) (by decide)
    refine WD.cons (SV.fieldAddr rfl ?_) (by decide)
    refine WD.cons0 (SV.storeV (by assumption) rfl (by constructor) (by exact Hp.up_same) (by (simp; done)) (fun s3_19 hn3_19 hM3_19 => ?_))
    refine WD.cons (SV.nilPtr rfl ?_) (by decide)
    refine WD.cons (SV.fieldAddr rfl ?_) (by decide)
    refine WD.cons (SV.fieldAddr rfl ?_) (by decide)
    refine WD.cons0 (SV.storeV (by assumption) rfl (by constructor) (by exact Hp.up_same) (by (simp; done)) (fun s3_23 hn3_23 hM3_23 => ?_))
    refine WD.nil ?_
    simp only [Hp.up_up] at hM3_23
    replace hM3_23 : Models ro s3_23 (H.up bx (.row es [.int .i64 (minI x x), .int .i64 (minI y y), .int .i64 x, .int .i64 y, .bool true])) := hM3_23
    refine WC.draw [0, 1, 2, 3, 4, 5, 6, 7, 8, 9, 10, 11, 12, 13, 14, 15, 16, 17, 18, 19, 20, 21, 22, 23] (by kernel_rfl) (by kernel_rfl) (by kernel_rfl) ?_
    refine WD.cons (SV.moveV (by constructor) ?_) (by decide)
    refine WD.cons (SV.moveV (by constructor) ?_) (by decide)
    refine WD.cons (SV.moveV (by constructor) ?_) (by decide)
    refine WD.cons (SV.nilPtr rfl ?_) (by decide)
    refine WD.cons (SV.fieldAddr rfl ?_) (by decide)
    refine WD.cons (SV.fieldAddr rfl ?_) (by decide)
    refine WD.cons (SV.loadM (by assumption) rfl (by exact Hp.up_same) (by rfl) ?_) (by decide)
    refine WD.cons (SV.moveV (by constructor) ?_) (by decide)
    refine WD.cons (SV.max2 rfl rfl ?_) (by decide)
    refine WD.cons (SV.moveV (by constructor) ?_) (by decide)
    refine WD.cons (SV.nilPtr rfl ?_) (by decide)
    refine WD.cons (SV.fieldAddr rfl ?_) (by decide)
    refine WD.cons (SV.fieldAddr rfl ?_) (by decide)
    refine WD.cons (SV.loadM (by assumption) rfl (by exact Hp.up_same) (by rfl) ?_) (by decide)
    refine WD.cons (SV.moveV (by constructor) ?_) (by decide)
    refine WD.cons (SV.max2 rfl rfl ?_) (by decide)
    refine WD.cons (SV.nilPtr rfl ?_) (by decide)
    refine WD.cons (SV.fieldAddr rfl ?_) (by decide)
    refine WD.cons (SV.fieldAddr rfl ?_) (by decide)
    refine WD.cons0 (SV.storeV (by assumption) rfl (by constructor) (by exact Hp.up_same) (by (simp; done)) (fun s4_19 hn4_19 hM4_19 => ?_))
    refine WD.cons (SV.nilPtr rfl ?_) (by decide)
    refine WD.cons (SV.fieldAddr rfl ?_) (by decide)
    refine WD.cons (SV.fieldAddr rfl ?_) (by decide)
    refine WD.cons0 (SV.storeV (by assumption) rfl (by constructor) (by exact Hp.up_same) (by (simp; done)) (fun s4_23 hn4_23 hM4_23 => ?_))
    refine WD.nil ?_
    simp only [Hp.up_up] at hM4_23
    replace hM4_23 : Models ro s4_23 (H.up bx (.row es [.int .i64 (minI x x), .int .i64 (minI y y), .int .i64 (maxI x x), .int .i64 (maxI y y), .bool true])) := hM4_23
    refine fin_none (e := .normal) rfl trivial (by omega) hM4_23 ⟨rfl, ?_⟩
    simp only [minI_self, maxI_self]; rfl
  | true =>
    refine WC.condF rfl (by rfl) (WC.skip (WC.seq ?_))
    refine WC.draw [0, 1, 2, 3, 4, 5, 6, 7, 8, 9, 10, 11, 12, 13, 14, 15, 16, 17, 18, 19, 20, 21, 22, 23] (by kernel_rfl) (by kernel_rfl) (by kernel_rfl) ?_
    refine WD.cons (SV.moveV (by constructor) ?_) (by decide)
    refine WD.cons (SV.moveV (by constructor) ?_) (by decide)
    refine WD.cons (SV.moveV (by constructor) ?_) (by decide)
    refine WD.cons (SV.nilPtr rfl ?_) (by decide)
    refine WD.cons (SV.fieldAddr rfl ?_) (by decide)
    refine WD.cons (SV.fieldAddr rfl ?_) (by decide)
    refine WD.cons (SV.loadM (by assumption) rfl (by assumption) (by rfl) ?_) (by decide)
    refine WD.cons (SV.moveV (by constructor) ?_) (by decide)
    refine WD.cons (SV.min2 rfl rfl ?_) (by decide)
    refine WD.cons (SV.moveV (by constructor) ?_) (by decide)
    refine WD.cons (SV.nilPtr rfl ?_) (by decide)
    refine WD.cons (SV.fieldAddr rfl ?_) (by decide)
    refine WD.cons (SV.fieldAddr rfl ?_) (by decide)
    refine WD.cons (SV.loadM (by assumption) rfl (by assumption) (by rfl) ?_) (by decide)
    refine WD.cons (SV.moveV (by constructor) ?_) (by decide)
    refine WD.cons (SV.min2 rfl rfl ?_) (by decide)
    refine WD.cons (SV.nilPtr rfl ?_) (by decide)
    refine WD.cons (SV.fieldAddr rfl ?_) (by decide)
    refine WD.cons (SV.fieldAddr rfl ?_) (by decide)
    refine WD.cons0 (SV.storeV (by assumption) rfl (by constructor) (by assumption) (by (simp; done)) (fun s3_19 hn3_19 hM3_19 => ?_))
    refine WD.cons (SV.nilPtr rfl ?_) (by decide)
    refine WD.cons (SV.fieldAddr rfl ?_) (by decide)
    refine WD.cons (SV.fieldAddr rfl ?_) (by decide)
    refine WD.cons0 (SV.storeV (by assumption) rfl (by constructor) (by exact Hp.up_same) (by (simp; done)) (fun s3_23 hn3_23 hM3_23 => ?_))
    refine WD.nil ?_
    simp only [Hp.up_up] at hM3_23
    replace hM3_23 : Models ro s3_23 (H.up bx (.row es [.int .i64 (minI x0 x), .int .i64 (minI y0 y), .int .i64 x1, .int .i64 y1, .bool true])) := hM3_23
    refine WC.draw [0, 1, 2, 3, 4, 5, 6, 7, 8, 9, 10, 11, 12, 13, 14, 15, 16, 17, 18, 19, 20, 21, 22, 23] (by kernel_rfl) (by kernel_rfl) (by kernel_rfl) ?_
    refine WD.cons (SV.moveV (by constructor) ?_) (by decide)
    refine WD.cons (SV.moveV (by constructor) ?_) (by decide)
    refine WD.cons (SV.moveV (by constructor) ?_) (by decide)
    refine WD.cons (SV.nilPtr rfl ?_) (by decide)
    refine WD.cons (SV.fieldAddr rfl ?_) (by decide)
    refine WD.cons (SV.fieldAddr rfl ?_) (by decide)
    refine WD.cons (SV.loadM (by assumption) rfl (by exact Hp.up_same) (by rfl) ?_) (by decide)
    refine WD.cons (SV.moveV (by constructor) ?_) (by decide)
    refine WD.cons (SV.max2 rfl rfl ?_) (by decide)
    refine WD.cons (SV.moveV (by constructor) ?_) (by decide)
    refine WD.cons (SV.nilPtr rfl ?_) (by decide)
    refine WD.cons (SV.fieldAddr rfl ?_) (by decide)
    refine WD.cons (SV.fieldAddr rfl ?_) (by decide)
    refine WD.cons (SV.loadM (by assumption) rfl (by exact Hp.up_same) (by rfl) ?_) (by decide)
    refine WD.cons (SV.moveV (by constructor) ?_) (by decide)
    refine WD.cons (SV.max2 rfl rfl ?_) (by decide)
    refine WD.cons (SV.nilPtr rfl ?_) (by decide)
    refine WD.cons (SV.fieldAddr rfl ?_) (by decide)
    refine WD.cons (SV.fieldAddr rfl ?_) (by decide)
    refine WD.cons0 (SV.storeV (by assumption) rfl (by constructor) (by exact Hp.up_same) (by (simp; done)) (fun s4_19 hn4_19 hM4_19 => ?_))
    refine WD.cons (SV.nilPtr rfl ?_) (by decide)
    refine WD.cons (SV.fieldAddr rfl ?_) (by decide)
    refine WD.cons (SV.fieldAddr rfl ?_) (by decide)
    refine WD.cons0 (SV.storeV (by assumption) rfl (by constructor) (by exact Hp.up_same) (by (simp; done)) (fun s4_23 hn4_23 hM4_23 => ?_))
    refine WD.nil ?_
    simp only [Hp.up_up] at hM4_23
    replace hM4_23 : Models ro s4_23 (H.up bx (.row es [.int .i64 (minI x0 x), .int .i64 (minI y0 y), .int .i64 (maxI x1 x), .int .i64 (maxI y1 y), .bool true])) := hM4_23
    exact fin_none (e := .normal) rfl trivial (by omega) hM4_23 ⟨rfl, rfl⟩
theorem spot1_sp {s : St} {H : Hp} {a : Spt} (hX : OwnX X) (hM : Models ro s H) : Sp X Try.prog ro 54 [.agg (encS a).toArray] s fun v H' => v = .tuple #[.int .i64 a.1, .int .i64 a.2] ∧ H' = H := by
  refine Sp.of_body (hX _ _ _ (by decide) (by decide) (by decide) (by decide)) Try.func54 rfl Try.ntmps54 (by simp) ?_
  refine WC.seq ?_
  refine WC.region ?_
  refine WO.cons (SV.boxM (by assumption) rfl (fun a0_0 s0_0 hf0_0 hne0_0 hn0_0 hM0_0 => ?_)) (by decide)
  refine WO.cons (SV.assignV (by constructor) ?_) (by decide)
  refine WO.cons (SV.assignV (by constructor) ?_) (by decide)
  refine WO.nil ?_
  replace hM0_0 : Models ro s0_0 (H.up a0_0 (.row 0 [.int .i64 a.1, .int .i64 a.2])) := hM0_0
  refine WC.seq ?_
  refine WC.draw [0, 1, 2, 3, 4, 5] (by kernel_rfl) (by kernel_rfl) (by kernel_rfl) ?_
  refine WD.cons (SV.fieldAddr rfl ?_) (by decide)
  refine WD.cons (SV.loadM (by assumption) rfl (by exact Hp.up_same) (by rfl) ?_) (by decide)
  refine WD.cons (SV.fieldAddr rfl ?_) (by decide)
  refine WD.cons (SV.loadM (by assumption) rfl (by exact Hp.up_same) (by rfl) ?_) (by decide)
  refine WD.cons (SV.assignV (by constructor) ?_) (by decide)
  refine WD.cons (SV.assignV (by constructor) ?_) (by decide)
  refine WD.nil ?_
  refine WC.ret ?_
  exact fin_two (e := .ret) (v := .int .i64 _) (w := .int .i64 _) rfl trivial rfl rfl (by omega) (hM0_0.sub (H' := H) fun ν o h => Hp.up_ne (hne0_0 ν o h) h) ⟨rfl, rfl⟩
def boxM (p : List (List Spt)) : Bx := p.foldl (fun b c => c.foldl addB b) ⟨0, 0, 0, 0, false⟩
end Go.Proofs.Ytmlplblhabdbpaa

namespace Go.Proofs.Ytmlplblhabdbpaa
open Go.Ab
variable {X : CallE} {ro : Nat}
set_option maxRecDepth 10000
set_option linter.unusedVariables false
set_option linter.unusedSimpArgs false

def F54 : Value := .func (.func 54) #[] #[]
set_option maxHeartbeats 1000000 in
/-- path.held of points: the box about all of them. -/
theorem held_sp {s : St} {H : Hp} {A : Option Addr} {cp : Nat} {p : List (List Spt)} (hX : OwnX X) (hM : Models ro s H) (hp : PolyH H A p) (hb : p.length ≤ 1000000000000) (hbig : totM p ≤ 1000000000000) :
    Sp X Try.prog ro 53 [.slice A p.length cp, F54] s fun v H' => v = .tuple #[.agg #[.int .i64 (boxM p).x0, .int .i64 (boxM p).y0, .int .i64 (boxM p).x1, .int .i64 (boxM p).y1], .bool (boxM p).so] ∧ H' = H := by
  refine Sp.of_body (hX _ _ _ (by decide) (by decide) (by decide) (by decide)) Try.func53 rfl Try.ntmps53 (by simp) ?_
  refine WC.seq ?_
  refine WC.region ?_
  refine WO.cons (SV.allocM (by assumption) (fun a0_0 s0_0 hf0_0 hne0_0 hn0_0 hM0_0 => ?_)) (by decide)
  refine WO.cons (SV.assignV (by constructor) ?_) (by decide)
  refine WO.nil ?_
  replace hM0_0 : Models ro s0_0 (H.up a0_0 (.row 0 [.int .i64 0, .int .i64 0, .int .i64 0, .int .i64 0])) := hM0_0
  have hE0 : Ext H (H.up a0_0 (.row 0 [.int .i64 0, .int .i64 0, .int .i64 0, .int .i64 0])) := ext_up hne0_0
  refine WC.seq ?_
  refine WC.region ?_
  refine WO.cons (SV.allocM (by assumption) (fun a1_0 s1_0 hf1_0 hne1_0 hn1_0 hM1_0 => ?_)) (by decide)
  refine WO.nil ?_
  replace hM1_0 : Models ro s1_0 ((H.up a0_0 (.row 0 [.int .i64 0, .int .i64 0, .int .i64 0, .int .i64 0])).up a1_0 (.row 0 (encB ⟨0, 0, 0, 0, false⟩))) := hM1_0
  have ha0 : (H.up a0_0 (.row 0 [.int .i64 0, .int .i64 0, .int .i64 0, .int .i64 0])) a0_0 = some (.row 0 [.int .i64 0, .int .i64 0, .int .i64 0, .int .i64 0]) := Hp.up_same
  have hne : a0_0 ≠ a1_0 := hne1_0 _ _ ha0
  have hf1 : ∀ ν o, H ν = some o → ν ≠ a1_0 := fun ν o e => hne1_0 ν o (hE0 ν o e)
  generalize H.up a0_0 (.row 0 [.int .i64 0, .int .i64 0, .int .i64 0, .int .i64 0]) = H0 at *
  refine WC.seq (WC.seq ?_)
  refine WC.region ?_
  refine WO.cons (SV.moveV (by constructor) ?_) (by decide)
  refine WO.cons (SV.len rfl rfl ?_) (by decide)
  refine WO.cons (SV.moveV (by constructor) ?_) (by decide)
  refine WO.nil ?_
  refine WC.block ?_
  refine WC.loop (D := Nat × Bx) (fun x => [(1, F54), (4, .pointer (some ⟨a0_0, 0, none⟩)), (6, .pointer (some ⟨a1_0, 0, none⟩)), (11, .slice A p.length cp), (12, .int .i64 p.length), (13, .int .i64 x.1)])
    (fun x s1 => s.next ≤ s1.next ∧ Models ro s1 (H0.up a1_0 (.row 0 (encB x.2))) ∧ x.1 ≤ p.length ∧ (p.drop x.1).foldl (fun b c => c.foldl addB b) x.2 = boxM p) (fun x => p.length - x.1) (0, ⟨0, 0, 0, 0, false⟩) ?_ ⟨by omega, hM1_0, Nat.zero_le _, rfl⟩ ?_
  · exact ⟨rfl, rfl, rfl, rfl, rfl, rfl, trivial⟩
  rintro ⟨i, b⟩ g s1 ⟨hn1, hM1, hi, e1⟩
  dsimp only at hM1 hi e1 ⊢
  have hEb : ∀ b, Ext H (H0.up a1_0 (.row 0 (encB b))) := fun b => hE0.up hf1
  refine WC.seq ?_
  refine WC.region ?_
  refine WO.cons (SV.lss rfl rfl ?_) (by decide)
  refine WO.nil ?_
  refine WC.seq ?_
  refine WC.condD rfl (fun hlt hltb => ?_) (fun hlt hltb => ?_)
  · obtain ⟨c, hc, hdr⟩ := drop_cons (L := p) (i := i) (by omega)
    rw [hdr, List.foldl_cons] at e1
    have hcl := len_le_tot (List.mem_of_getElem? hc)
    obtain ⟨ν, o, B, k, rfl, hcell, hS⟩ := (hp.ext (hEb b)) i c hc
    refine WC.skip (WC.seq (WC.block (WC.seq ?_)))
    refine WC.region ?_
    refine WO.cons (SV.indexAddr rfl rfl (by omega) ?_) (by decide)
    refine WO.cons (SV.loadC (by assumption) rfl (by assumption) ?_) (by decide)
    refine WO.cons (SV.assignV (by constructor) ?_) (by decide)
    refine WO.nil ?_
    refine WC.seq ?_
    refine WC.region ?_
    refine WO.cons (SV.moveV (by constructor) ?_) (by decide)
    refine WO.cons (SV.len rfl rfl ?_) (by decide)
    refine WO.cons (SV.moveV (by constructor) ?_) (by decide)
    refine WO.nil ?_
    refine WC.block ?_
    refine WC.loop (D := Nat × Bx) (fun x => [(1, F54), (4, .pointer (some ⟨a0_0, 0, none⟩)), (6, .pointer (some ⟨a1_0, 0, none⟩)), (11, .slice (some ⟨ν, o, none⟩) p.length cp), (12, .int .i64 p.length), (13, .int .i64 i), (17, .slice B c.length k), (18, .int .i64 c.length), (19, .int .i64 x.1)])
      (fun x s2 => s.next ≤ s2.next ∧ Models ro s2 (H0.up a1_0 (.row 0 (encB x.2))) ∧ x.1 ≤ c.length ∧ (c.drop x.1).foldl addB x.2 = c.foldl addB b) (fun x => c.length - x.1) (0, b) ?_ ⟨by omega, hM1, Nat.zero_le _, rfl⟩ ?_
    · exact ⟨rfl, rfl, rfl, rfl, rfl, rfl, rfl, rfl, rfl, trivial⟩
    rintro ⟨j, b2⟩ g s2 ⟨hn2, hM2, hj, f1⟩
    dsimp only at hM2 hj f1 ⊢
    refine WC.seq ?_
    refine WC.region ?_
    refine WO.cons (SV.lss rfl rfl ?_) (by decide)
    refine WO.nil ?_
    refine WC.seq ?_
    refine WC.condD rfl (fun hlt2 hlt2b => ?_) (fun hlt2 hlt2b => ?_)
    · obtain ⟨q, hq, hdr2⟩ := drop_cons (L := c) (i := j) (by omega)
      rw [hdr2, List.foldl_cons] at f1
      obtain ⟨ν', o', B', k', hAe, hcell', hS'⟩ := (hp.ext (hEb b2)) i c hc
      cases hAe
      have hBB : B' = B ∧ k' = k := by
        have h1 : cellH (H0.up a1_0 (.row 0 (encB b))) ν (o + i * 1) = cellH (H0.up a1_0 (.row 0 (encB b2))) ν (o + i * 1) := by
          obtain ⟨ν3, o3, B3, k3, e3, c3, _⟩ := hp i c hc
          cases e3
          rw [cellH_ext (hEb b) c3, cellH_ext (hEb b2) c3]
        rw [hcell, hcell'] at h1
        cases h1; exact ⟨rfl, rfl⟩
      obtain ⟨rfl, rfl⟩ := hBB
      obtain ⟨μ, o2, rfl, hq1, hq2⟩ := hS'.2 j q hq
      refine WC.skip (WC.seq (WC.block (WC.seq ?_)))
      refine WC.region ?_
      refine WO.cons (SV.indexAddr rfl rfl (by omega) ?_) (by decide)
      refine WO.cons ?_ (by decide)
      refine SV.loadCA (l := [.int .i64 q.1, .int .i64 q.2]) hM2 rfl rfl (fun i v e => ?_) ?_
      · match i, e with
        | 0, e => cases e; exact hq1
        | 1, e => cases e; exact hq2
      refine WO.cons (SV.allocM (by assumption) (fun a7_2 s7_2 hf7_2 hne7_2 hn7_2 hM7_2 => ?_)) (by decide)
      refine WO.cons0 (SV.storeMA (by assumption) rfl rfl rfl rfl (by exact Hp.up_same) (by (simp; done)) (fun s7_3 hn7_3 hM7_3 => ?_))
      refine WO.nil ?_
      rw [Hp.up_up] at hM7_3
      replace hM7_3 : Models ro s7_3 ((H0.up a1_0 (.row 0 (encB b2))).up a7_2 (.row 0 (encS q))) := hM7_3
      have hM7 := hM7_3.sub (H' := H0.up a1_0 (.row 0 (encB b2))) fun ν o e => Hp.up_ne (hne7_2 ν o e) e
      refine WC.region ?_
      refine WO.cons (SV.moveV (by constructor) ?_) (by decide)
      refine WO.cons ?_ (by decide)
      refine SV.loadMA (l := encS q) hM7_3 rfl Hp.up_same rfl (fun i v hv => by rw [Nat.zero_add]; exact hv) ?_
      refine WO.cons ?_ (by decide)
      refine SV.callM rfl rfl (spot1_sp hX hM7) ?_
      rintro v s3 H3 hn3 hM3 ⟨rfl, rfl⟩
      refine WO.cons (SV.extract rfl rfl ?_) (by decide)
      refine WO.cons (SV.extract rfl rfl ?_) (by decide)
      refine WO.cons ?_ (by decide)
      refine SV.callM rfl rfl (addBox_sp (b := b2) hX hM3 Hp.up_same) ?_
      rintro v s4 H4 hn4 hM4 ⟨rfl, rfl⟩
      rw [Hp.up_up] at hM4
      refine WO.nil ?_
      refine WC.region ?_
      refine WO.cons (SV.add64 rfl rfl (by omega) ?_) (by decide)
      refine WO.cons (SV.moveV (by constructor) ?_) (by decide)
      refine WO.nil ?_
      exact ⟨rfl, (j + 1, addB b2 q), ⟨rfl, rfl, rfl, rfl, rfl, rfl, rfl, rfl, by show some (Value.int .i64 ((j : Int) + 1)) = _; rfl, trivial⟩, ⟨by omega, hM4, by dsimp only; omega, f1⟩, by dsimp only; omega⟩
    · refine WC.exit ?_
      have hz : c.drop j = [] := List.drop_eq_nil_of_le (by omega)
      rw [hz] at f1
      refine WC.region ?_
      refine WO.cons (SV.add64 rfl rfl (by omega) ?_) (by decide)
      refine WO.cons (SV.moveV (by constructor) ?_) (by decide)
      refine WO.nil ?_
      exact ⟨rfl, (i + 1, b2), ⟨rfl, rfl, rfl, rfl, rfl, by show some (Value.int .i64 ((i : Int) + 1)) = _; rfl, trivial⟩, ⟨hn2, hM2, by dsimp only; omega, by dsimp only; rw [show b2 = c.foldl addB b from f1]; exact e1⟩, by dsimp only; omega⟩
  · have hz : p.drop i = [] := List.drop_eq_nil_of_le (by omega)
    rw [hz] at e1
    have e1' : b = boxM p := e1
    subst e1'
    refine WC.exit (WC.seq ?_)
    have hrow : (H0.up a1_0 (.row 0 (encB (boxM p)))) a1_0 = some (.row 0 [.int .i64 (boxM p).x0, .int .i64 (boxM p).y0, .int .i64 (boxM p).x1, .int .i64 (boxM p).y1, .bool (boxM p).so]) := Hp.up_same
    have ha1 : (H0.up a1_0 (.row 0 (encB (boxM p)))) a0_0 = some (.row 0 [.int .i64 0, .int .i64 0, .int .i64 0, .int .i64 0]) := Hp.up_ne hne ha0
    obtain ⟨Hr, hHr⟩ : ∃ Hr : Hp, ∀ μ, Hr μ = if μ = a0_0 then none else (H0.up a1_0 (.row 0 (encB (boxM p)))) μ := ⟨_, fun _ => rfl⟩
    have hsub : ∀ {o : Go.Ab.Obj} {s9 : St}, Models ro s9 ((H0.up a1_0 (.row 0 (encB (boxM p)))).up a0_0 o) → Models ro s9 Hr := fun h => h.sub fun μ o e => by
      rw [hHr] at e
      by_cases hb : μ = a0_0
      · rw [if_pos hb] at e; cases e
      · rw [if_neg hb] at e; exact Hp.up_ne hb e
    have hMr : Models ro s1 Hr := hM1.sub fun μ o e => by
      rw [hHr] at e
      by_cases hb : μ = a0_0
      · rw [if_pos hb] at e; cases e
      · rw [if_neg hb] at e; exact e
    have hr1 : Hr a1_0 = some (.row 0 [.int .i64 (boxM p).x0, .int .i64 (boxM p).y0, .int .i64 (boxM p).x1, .int .i64 (boxM p).y1, .bool (boxM p).so]) := by rw [hHr, if_neg (Ne.symm hne)]; exact hrow
    refine WC.drawE hMr [0, 1, 2, 3, 4, 5] (by kernel_rfl) (by kernel_rfl) ?_
    refine WE.act (by kernel_rfl) hMr (SV.fieldAddr rfl ⟨hMr, ?_⟩) (by decide)
    refine WE.read (St1.loadA (l := [.int .i64 (boxM p).x0, .int .i64 (boxM p).y0, .int .i64 (boxM p).x1, .int .i64 (boxM p).y1]) rfl hr1 rfl (fun i v e => by
      match i, e with
      | 0, e => cases e; rfl
      | 1, e => cases e; rfl
      | 2, e => cases e; rfl
      | 3, e => cases e; rfl) (by simp [sameV, sameV.sameVs, eqI_self])) hMr ?_ (by decide)
    refine WE.act (by kernel_rfl) hMr (SV.fieldAddr rfl ⟨hMr, ?_⟩) (by decide)
    refine WE.read (St1.load rfl hr1 rfl (by simp [sameV])) hMr ?_ (by decide)
    refine WE.act0 (by kernel_rfl) hMr (SV.storeMA hM1 rfl rfl rfl rfl ha1 (Nat.le_refl _) (fun s5 hn5 hM11_4 => ⟨hsub hM11_4, ?_⟩))
    have hMr5 := hsub hM11_4
    refine WE.act (by kernel_rfl) hMr5 (SV.assignV (by constructor) ⟨hMr5, ?_⟩) (by decide)
    refine WE.nil ?_
    refine thn_n ?_
    refine WC.ret ?_
    change FinM Try.prog ro s.next Try.f53 _ Ex.ret _ [] _
    refine fin_cellT (e := .ret) (es := 0) (vs := [.int .i64 (boxM p).x0, .int .i64 (boxM p).y0, .int .i64 (boxM p).x1, .int .i64 (boxM p).y1]) rfl trivial rfl Hp.up_same rfl rfl (by omega) hM11_4 (hM11_4.sub (H' := H) fun ν o e => ?_) ⟨rfl, rfl⟩
    have h1 := hEb (boxM p) ν o e
    exact Hp.up_ne (fun h => by subst h; exact absurd rfl (hne0_0 _ _ e)) h1
/-- path.Bounds. -/
theorem bounds_sp {s : St} {H : Hp} {A : Option Addr} {cp : Nat} {p : List (List Spt)} (hX : OwnX X) (hM : Models ro s H) (hp : PolyH H A p) (hb : p.length ≤ 1000000000000) (hbig : totM p ≤ 1000000000000) :
    Sp X Try.prog ro 37 [.slice A p.length cp] s fun v H' => v = .tuple #[.agg #[.int .i64 (boxM p).x0, .int .i64 (boxM p).y0, .int .i64 (boxM p).x1, .int .i64 (boxM p).y1], .bool (boxM p).so] ∧ H' = H := by
  refine Sp.of_body (hX _ _ _ (by decide) (by decide) (by decide) (by decide)) Try.func37 rfl Try.ntmps37 (by simp) ?_
  refine WC.seq ?_
  refine WC.region ?_
  refine WO.cons (SV.allocM (by assumption) (fun a0_0 s0_0 hf0_0 hne0_0 hn0_0 hM0_0 => ?_)) (by decide)
  refine WO.cons (SV.assignV (by constructor) ?_) (by decide)
  refine WO.nil ?_
  replace hM0_0 : Models ro s0_0 (H.up a0_0 (.row 0 [.int .i64 0, .int .i64 0, .int .i64 0, .int .i64 0])) := hM0_0
  have hE0 : Ext H (H.up a0_0 (.row 0 [.int .i64 0, .int .i64 0, .int .i64 0, .int .i64 0])) := ext_up hne0_0
  refine WC.seq ?_
  refine WC.region ?_
  refine WO.cons (SV.moveV (by constructor) ?_) (by decide)
  refine WO.cons ?_ (by decide)
  refine SV.callM rfl rfl (held_sp hX hM0_0 (hp.ext hE0) hb hbig) ?_
  rintro v s1 H1 hn1 hM1 ⟨rfl, rfl⟩
  refine WO.cons (SV.extract rfl rfl ?_) (by decide)
  refine WO.cons (SV.extract rfl rfl ?_) (by decide)
  refine WO.cons0 (SV.storeMA (by assumption) rfl rfl rfl rfl (by exact Hp.up_same) (by (simp; done)) (fun s1_4 hn1_4 hM1_4 => ?_))
  refine WO.cons (SV.assignV (by constructor) ?_) (by decide)
  refine WO.nil ?_
  refine WC.ret ?_
  rw [Hp.up_up] at hM1_4
  change FinM Try.prog ro s.next Try.f37 _ Ex.ret _ [] _
  exact fin_cellT (e := .ret) (es := 0) (vs := [.int .i64 (boxM p).x0, .int .i64 (boxM p).y0, .int .i64 (boxM p).x1, .int .i64 (boxM p).y1]) rfl trivial rfl Hp.up_same rfl rfl (by omega) hM1_4 (hM1_4.sub (H' := H) fun ν o e => Hp.up_ne (hne0_0 ν o e) e) ⟨rfl, rfl⟩
end Go.Proofs.Ytmlplblhabdbpaa

namespace Go.Proofs.Ytmlplblhabdbpaa
open Go.Ab
variable {X : CallE} {ro : Nat}
set_option maxRecDepth 10000
set_option linter.unusedVariables false
set_option linter.unusedSimpArgs false

/-- The counts of a mask, where a span's cells of a row of pixels are added as far as a pixel. -/
def stepC (w : Nat) (mx : Int) (r : Nat) (a b x : Int) (C : List Int) : List Int := C.mapIdx fun k v => if k / w = r ∧ mx + (k % w : Nat) < x then v + ovN (64 * (mx + (k % w : Nat))) 64 a b else v
theorem stepC_len {w : Nat} {mx : Int} {r : Nat} {a b x : Int} {C : List Int} : (stepC w mx r a b x C).length = C.length := by unfold stepC; simp
theorem place {w r c : Nat} (hc : c < w) : (r * w + c) / w = r ∧ (r * w + c) % w = c := by
  rw [Nat.add_comm]
  exact ⟨by rw [Nat.add_mul_div_right _ _ (by omega), Nat.div_eq_of_lt hc]; omega, by rw [Nat.add_mul_mod_self_right, Nat.mod_eq_of_lt hc]⟩
theorem place_eq {w k r c : Nat} (h1 : k / w = r) (h2 : k % w = c) : k = r * w + c := by
  have := Nat.div_add_mod k w
  rw [h1, h2, Nat.mul_comm] at this
  exact this.symm
theorem stepC_get {w : Nat} {mx : Int} {r c : Nat} {a b : Int} {C : List Int} {v : Int} (hc : c < w) (hv : C[r * w + c]? = some v) : (stepC w mx r a b (mx + c) C)[r * w + c]? = some v := by
  unfold stepC
  obtain ⟨p1, p2⟩ := place (r := r) hc
  rw [List.getElem?_mapIdx, hv, Option.map_some, p1, p2, if_neg (by omega)]
theorem stepC_set {w : Nat} {mx : Int} {r c : Nat} {a b : Int} {C : List Int} {v : Int} (hc : c < w) (hv : C[r * w + c]? = some v) :
    (stepC w mx r a b (mx + c) C).set (r * w + c) (v + ovN (64 * (mx + c)) 64 a b) = stepC w mx r a b (mx + c + 1) C := by
  obtain ⟨p1, p2⟩ := place (r := r) hc
  have hlt := (List.getElem?_eq_some_iff.mp hv).1
  apply List.ext_getElem?
  intro k
  rw [List.getElem?_set]
  by_cases hk : r * w + c = k
  · subst hk
    rw [if_pos rfl, if_pos (by rw [stepC_len]; exact hlt)]
    unfold stepC
    rw [List.getElem?_mapIdx, hv, Option.map_some, p1, p2, if_pos ⟨rfl, by omega⟩]
  · rw [if_neg hk]
    unfold stepC
    rw [List.getElem?_mapIdx, List.getElem?_mapIdx]
    cases hC : C[k]? with
    | none => rfl
    | some u =>
      simp only [Option.map_some]
      by_cases hr : k / w = r
      · have hm : k % w ≠ c := fun h => hk (place_eq hr h).symm
        by_cases hx : mx + (k % w : Nat) < mx + c
        · rw [if_pos ⟨hr, hx⟩, if_pos ⟨hr, by omega⟩]
        · rw [if_neg (fun h => hx h.2), if_neg (fun h => by have := h.2; omega)]
      · rw [if_neg (fun h => hr h.1), if_neg (fun h => hr h.1)]
theorem stepC_first {w : Nat} {mx : Int} {r : Nat} {a b : Int} {C : List Int} : stepC w mx r a b (a / 64) C = C := by
  unfold stepC
  apply List.ext_getElem?
  intro k
  rw [List.getElem?_mapIdx]
  cases hC : C[k]? with
  | none => rfl
  | some u =>
    simp only [Option.map_some]
    split
    · rename_i h
      have : ovN (64 * (mx + (k % w : Nat))) 64 a b = 0 := by unfold ovN; (repeat' split) <;> omega
      rw [this, Int.add_zero]
    · rfl
theorem stepC_last {w : Nat} {mx : Int} {r : Nat} {a b x y : Int} {C : List Int} (hx : b ≤ x * 64) (hy : b ≤ y * 64) : stepC w mx r a b x C = stepC w mx r a b y C := by
  unfold stepC
  apply List.ext_getElem?
  intro k
  rw [List.getElem?_mapIdx, List.getElem?_mapIdx]
  cases hC : C[k]? with
  | none => rfl
  | some u =>
    simp only [Option.map_some]
    by_cases hr : k / w = r
    · have h0 : ∀ z : Int, b ≤ z * 64 → ¬ mx + (k % w : Nat) < z → ovN (64 * (mx + (k % w : Nat))) 64 a b = 0 := fun z hz hn => by unfold ovN; (repeat' split) <;> omega
      by_cases h1 : mx + (k % w : Nat) < x <;> by_cases h2 : mx + (k % w : Nat) < y
      · rw [if_pos ⟨hr, h1⟩, if_pos ⟨hr, h2⟩]
      · rw [if_pos ⟨hr, h1⟩, if_neg (fun h => h2 h.2), h0 y hy h2, Int.add_zero]
      · rw [if_neg (fun h => h1 h.2), if_pos ⟨hr, h2⟩, h0 x hx h1, Int.add_zero]
      · rw [if_neg (fun h => h1 h.2), if_neg (fun h => h2 h.2)]
    · rw [if_neg (fun h => hr h.1), if_neg (fun h => hr h.1)]
set_option maxHeartbeats 1000000 in
/-- The closure of counted: a span's cells are added to the pixels of its row. -/
theorem cntR_sp {s : St} {H : Hp} {bb bt bm bc e1 e2 e3 : Nat} {at' top mx my : Int} {w h : Nat} {cov : Value} {C : List Int} {j a b : Int} {r : Nat} (hX : OwnX X) (hM : Models ro s H) (hb : H bb = some (.row e1 [.int .i64 at', .slice (some ⟨bc, 0, none⟩) (w * h) (w * h)]))
    (ht : H bt = some (.row e2 [.int .i64 top])) (hm : H bm = some (.row e3 [.int .i64 mx, .int .i64 my, .int .i64 w, .int .i64 h, cov])) (hC : H bc = some (.row 1 (C.map (.int .i64)))) (hCl : C.length = w * h) (hw : 0 < w ∧ w ≤ 512) (hh : h ≤ 512)
    (hr : j / 64 - top = r) (hrh : r < h) (htop : -4294967296 ≤ top ∧ top ≤ 4294967296) (hmx : -4294967296 ≤ mx ∧ mx ≤ 4294967296) (ha : 64 * mx ≤ a ∧ a ≤ 1099511627776) (hbb : b ≤ 64 * (mx + w)) (hab : a ≤ b) (hCb : ∀ v ∈ C, 0 ≤ v ∧ v ≤ 1000000000000)
    (hn1 : bb ≠ bc) (hn2 : bt ≠ bc) (hn3 : bm ≠ bc) :
    Sp X Try.prog ro 38 [.int .i64 j, .int .i64 a, .int .i64 b, .pointer (some ⟨bb, 0, none⟩), .pointer (some ⟨bt, 0, none⟩), .pointer (some ⟨bm, 0, none⟩)] s fun v H' => v = .tuple #[] ∧ H' = H.up bc (.row 1 ((stepC w mx r a b (mx + w) C).map (.int .i64))) := by
  have hrw : r * w + w ≤ w * h := by
    have : (r + 1) * w ≤ h * w := Nat.mul_le_mul_right _ (by omega)
    rw [Nat.add_mul, Nat.one_mul, Nat.mul_comm h w] at this
    exact this
  have hwh : w * h ≤ 512 * 512 := Nat.mul_le_mul hw.2 hh
  refine Sp.of_body (hX _ _ _ (by decide) (by decide) (by decide) (by decide)) Try.func38 rfl Try.ntmps38 (by simp) ?_
  refine WC.seq ?_
  refine WC.draw [0, 1, 2, 3, 4, 5, 6, 7, 8, 9, 10, 11, 12, 13] (by kernel_rfl) (by kernel_rfl) (by kernel_rfl) ?_
  refine WD.cons (SV.fieldAddr rfl ?_) (by decide)
  refine WD.cons (SV.loadM (by assumption) rfl (by assumption) (by rfl) ?_) (by decide)
  refine WD.cons (SV.moveV (by constructor) ?_) (by decide)
  refine WD.cons (SV.shr6 rfl rfl ?_) (by decide)
  refine WD.cons (SV.loadM (by assumption) rfl (by assumption) (by rfl) ?_) (by decide)
  refine WD.cons (SV.sub64 rfl rfl (by omega) ?_) (by decide)
  refine WD.cons (SV.fieldAddr rfl ?_) (by decide)
  refine WD.cons (SV.loadM (by assumption) rfl (by assumption) (by rfl) ?_) (by decide)
  refine WD.cons (SV.mul rfl rfl ?_) (by decide)
  refine WD.cons ?_ (by decide)
  rw [hr]
  have e0 : wrapK .i64 ((r : Int) * (w : Int)) = ((r * w : Nat) : Int) := by rw [← Int.natCast_mul]; exact wrap64 (by omega)
  rw [e0]
  refine SV.sliceFrom (i := ((r * w : Nat) : Int)) (m := w * h - r * w) hM rfl hC rfl (by omega) (by omega) ?_
  refine WD.cons (SV.fieldAddr rfl ?_) (by decide)
  refine WD.cons (SV.loadM (by assumption) rfl (by assumption) (by rfl) ?_) (by decide)
  refine WD.cons ?_ (by decide)
  refine SV.sliceUptoG (i := (w : Int)) hM rfl hC rfl (by omega) ?_
  refine WD.cons (SV.assignV (by constructor) ?_) (by decide)
  refine WD.nil ?_
  simp only [Int.toNat_natCast, Nat.mul_one]
  refine WC.seq ?_
  refine WC.region ?_
  refine WO.cons (SV.moveV (by constructor) ?_) (by decide)
  refine WO.cons (SV.shr6 rfl rfl ?_) (by decide)
  refine WO.cons (SV.assignV (by constructor) ?_) (by decide)
  refine WO.nil ?_
  refine WC.block ?_
  refine WC.loop (D := Int) (fun x => [(1, .int .i64 a), (2, .int .i64 b), (5, .pointer (some ⟨bm, 0, none⟩)), (9, .slice (some ⟨bc, r * w, none⟩) w (w * h - r * w)), (10, .int .i64 x)])
    (fun x s1 => s.next ≤ s1.next ∧ Models ro s1 (H.up bc (.row 1 ((stepC w mx r a b x C).map (.int .i64)))) ∧ a / 64 ≤ x ∧ x ≤ mx + w) (fun x => (mx + w - x).toNat) (a / 64) ?_ ⟨by omega, by rw [stepC_first, Hp.up_self hC]; exact hM, by omega, by omega⟩ ?_
  · exact ⟨rfl, rfl, rfl, rfl, rfl, trivial⟩
  rintro x g s1 ⟨hn1', hM1, hx0, hx1⟩
  have hrow : (H.up bc (.row 1 ((stepC w mx r a b x C).map (.int .i64)))) bc = some (.row 1 ((stepC w mx r a b x C).map (.int .i64))) := Hp.up_same
  have hm1 : (H.up bc (.row 1 ((stepC w mx r a b x C).map (.int .i64)))) bm = some (.row e3 [.int .i64 mx, .int .i64 my, .int .i64 w, .int .i64 h, cov]) := Hp.up_ne hn3 hm
  refine WC.seq (WC.seq ?_)
  refine WC.region ?_
  refine WO.cons (SV.moveV (by constructor) ?_) (by decide)
  refine WO.cons (SV.shl6 rfl rfl (by omega) ?_) (by decide)
  refine WO.cons (SV.moveV (by constructor) ?_) (by decide)
  refine WO.cons (SV.lss rfl rfl ?_) (by decide)
  refine WO.nil ?_
  refine WC.condD rfl (fun hlt hltb => ?_) (fun hlt hltb => ?_)
  · obtain ⟨c, hc⟩ : ∃ c : Nat, x = mx + c := ⟨(x - mx).toNat, by omega⟩
    have hcw : c < w := by omega
    obtain ⟨v, hv⟩ : ∃ v, C[r * w + c]? = some v := ⟨_, List.getElem?_eq_getElem (by omega)⟩
    have hvb := hCb v (List.mem_of_getElem? hv)
    have hg := stepC_get (mx := mx) (a := a) (b := b) hcw hv
    rw [← hc] at hg
    have hidx : r * w + (x - mx).toNat * 1 = r * w + c := by omega
    have hcell : ((stepC w mx r a b x C).map (Value.int .i64))[r * w + (x - mx).toNat * 1]? = some (.int .i64 v) := by rw [hidx, List.getElem?_map, hg]; rfl
    have hlen : r * w + (x - mx).toNat * 1 < ((stepC w mx r a b x C).map (Value.int .i64)).length := by rw [List.length_map, stepC_len]; omega
    have hlen2 : r * w + (x - mx).toNat * 1 < (stepC w mx r a b x C).length := by rw [stepC_len]; omega
    refine WC.skip (WC.seq (WC.block ?_))
    refine WC.region ?_
    refine WO.cons (SV.moveV (by constructor) ?_) (by decide)
    refine WO.cons (SV.moveV (by constructor) ?_) (by decide)
    refine WO.cons (SV.fieldAddr rfl ?_) (by decide)
    refine WO.cons (SV.loadM (by assumption) rfl (by assumption) (by rfl) ?_) (by decide)
    refine WO.cons (SV.sub64 rfl rfl (by omega) ?_) (by decide)
    refine WO.cons (SV.indexAddr rfl rfl (by omega) ?_) (by decide)
    refine WO.cons (SV.loadM (by assumption) rfl (by assumption) (by assumption) ?_) (by decide)
    refine WO.cons (SV.moveV (by constructor) ?_) (by decide)
    refine WO.cons (SV.moveV (by constructor) ?_) (by decide)
    refine WO.cons (SV.mul64 rfl rfl (by omega) ?_) (by decide)
    refine WO.cons (SV.add64 rfl rfl (by omega) ?_) (by decide)
    refine WO.cons (SV.min2 rfl rfl ?_) (by decide)
    refine WO.cons (SV.moveV (by constructor) ?_) (by decide)
    refine WO.cons (SV.moveV (by constructor) ?_) (by decide)
    refine WO.cons (SV.mul64 rfl rfl (by omega) ?_) (by decide)
    refine WO.cons (SV.max2 rfl rfl ?_) (by decide)
    refine WO.cons (SV.sub64 rfl rfl (by omega) ?_) (by decide)
    refine WO.cons (SV.add64 rfl rfl (by omega) ?_) (by decide)
    refine WO.cons (SV.indexAddr rfl rfl (by omega) ?_) (by decide)
    refine WO.cons0 (SV.storeV (by assumption) rfl (by constructor) (by assumption) (by (simp only [List.length_map]; omega)) (fun s4_19 hn4_19 hM4_19 => ?_))
    refine WO.nil ?_
    rw [Hp.up_up, ← List.map_set, hidx] at hM4_19
    have e1 : v + ((if 64 * x + 64 < b then 64 * x + 64 else b) - if a < 64 * x then 64 * x else a) = v + ovN (64 * (mx + c)) 64 a b := by
      unfold ovN; rw [← hc]; congr 1; (repeat' split) <;> omega
    rw [e1] at hM4_19
    have hset := stepC_set (mx := mx) (a := a) (b := b) hcw hv
    rw [← hc] at hset hM4_19
    rw [hset] at hM4_19
    refine WC.region ?_
    refine WO.cons (SV.moveV (by constructor) ?_) (by decide)
    refine WO.cons (SV.add64 rfl rfl (by omega) ?_) (by decide)
    refine WO.cons (SV.assignV (by constructor) ?_) (by decide)
    refine WO.nil ?_
    exact ⟨rfl, x + 1, ⟨rfl, rfl, rfl, rfl, rfl, trivial⟩, ⟨by omega, hM4_19, by omega, by omega⟩, by omega⟩
  · refine WC.exit ?_
    refine fin_none (e := .normal) rfl trivial hn1' hM1 ⟨rfl, ?_⟩
    rw [stepC_last (x := x) (y := mx + w) (by omega) (by omega)]
end Go.Proofs.Ytmlplblhabdbpaa

namespace Go.Proofs.Ytmlplblhabdbpaa
open Go.Ab
set_option linter.unusedVariables false
set_option linter.unusedSimpArgs false
/-! ### Where crossings lie -/
theorem first_between {e : Ed} {j lo hi : Int} (hj : e.y0 ≤ j ∧ j < e.y1) (h0 : lo ≤ e.x0 ∧ e.x0 ≤ hi) (h1 : lo ≤ e.x1 ∧ e.x1 ≤ hi) : lo ≤ firstM e j ∧ firstM e j ≤ hi := by
  have hy : e.y0 < e.y1 := by omega
  obtain ⟨t, ht⟩ : ∃ t, t = 2 * j + 1 - 2 * e.y0 := ⟨_, rfl⟩
  obtain ⟨d, hd⟩ : ∃ d, d = e.y1 - e.y0 := ⟨_, rfl⟩
  have hup : upM e j = e.x0 * (2 * d - t) + e.x1 * t - d := by
    unfold upM; rw [← ht, ← hd]; grind
  have a1 := Int.mul_le_mul_of_nonneg_right h0.2 (show 0 ≤ 2 * d - t by omega)
  have a2 := Int.mul_le_mul_of_nonneg_right h1.2 (show 0 ≤ t by omega)
  have a3 := Int.mul_le_mul_of_nonneg_right h0.1 (show 0 ≤ 2 * d - t by omega)
  have a4 := Int.mul_le_mul_of_nonneg_right h1.1 (show 0 ≤ t by omega)
  have e1 : hi * (2 * d - t) + hi * t = hi * (2 * d) := by grind
  have e2 : lo * (2 * d - t) + lo * t = lo * (2 * d) := by grind
  have e3 : (lo - 1) * (2 * d) = lo * (2 * d) - 2 * d := by grind
  constructor
  · by_cases h : lo ≤ firstM e j
    · exact h
    · have := (first_le (i := lo - 1) (j := j) hy).mp (by omega)
      rw [hup, ← hd, e3] at this
      omega
  · refine (first_le (i := hi) (j := j) hy).mpr ?_
    rw [hup, ← hd]
    omega
theorem spR_geo {j lo hi : Int} : ∀ (cs : List Cr) (w : Int), Srt Prod.fst cs → (∀ c ∈ cs, lo ≤ c.1 ∧ c.1 ≤ hi) → ∀ s ∈ spR j w cs, s.1 = j ∧ lo ≤ s.2.1 ∧ s.2.1 ≤ s.2.2 ∧ s.2.2 ≤ hi
  | [], _, _, _, s, h => by cases h
  | c :: cs, w, hs, hb, s, h => by
    obtain ⟨h1, h2⟩ := List.pairwise_cons.mp hs
    simp only [spR] at h
    rcases List.mem_append.mp h with h | h
    · split at h
      · cases h
      · cases cs with
        | nil => cases h
        | cons d ds =>
          rw [List.mem_singleton.mp h]
          exact ⟨rfl, (hb c (by simp)).1, h1 d (by simp), (hb d (by simp)).2⟩
    · exact spR_geo cs _ h2 (fun d hd => hb d (by simp [hd])) s h
theorem cross_geo {l : List Ed} {lo hi : Int} (hl : ∀ e ∈ l, (lo ≤ e.x0 ∧ e.x0 ≤ hi) ∧ lo ≤ e.x1 ∧ e.x1 ≤ hi) {j : Int} : ∀ c ∈ crossM l j, lo ≤ c.1 ∧ c.1 ≤ hi := by
  intro c hc
  unfold crossM actM actB at hc
  obtain ⟨e, he, rfl⟩ := List.mem_map.mp hc
  obtain ⟨h1, h2⟩ := List.mem_filter.mp he
  simp at h2
  exact first_between h2 (hl e h1).1 (hl e h1).2
theorem spans_geo {SM : List Cr → List Cr} (hp : ∀ C, (SM C).Perm C) (ho : ∀ C, Srt Prod.fst (SM C)) {l : List Ed} {lo hi : Int} (hl : ∀ e ∈ l, (lo ≤ e.x0 ∧ e.x0 ≤ hi) ∧ lo ≤ e.x1 ∧ e.x1 ≤ hi) {j0 : Int} {m : Nat} :
    ∀ s ∈ spansM SM l j0 m, (∃ i : Nat, i < m ∧ s.1 = j0 + i) ∧ lo ≤ s.2.1 ∧ s.2.1 ≤ s.2.2 ∧ s.2.2 ≤ hi := by
  intro s hs
  unfold spansM at hs
  obtain ⟨i, hi, hs⟩ := List.mem_flatMap.mp hs
  obtain ⟨h1, h2⟩ := spR_geo _ _ (ho _) (fun c hc => cross_geo hl c ((hp _).mem_iff.mp hc)) s hs
  exact ⟨⟨i, List.mem_range.mp hi, h1⟩, h2⟩
/-! ### The counts of a mask -/
def cntAt (w : Nat) (mx top : Int) (sp : List Sn) (k : Nat) : Int := (sp.map fun s => if (s.1 / 64 - top).toNat = k / w then ovN (64 * (mx + (k % w : Nat))) 64 s.2.1 s.2.2 else 0).sum
theorem cntAt_app {w : Nat} {mx top : Int} {A B : List Sn} {k : Nat} : cntAt w mx top (A ++ B) k = cntAt w mx top A k + cntAt w mx top B k := by unfold cntAt; rw [List.map_append, List.sum_append]
theorem cntAt_nn {w : Nat} {mx top : Int} {k : Nat} : ∀ A : List Sn, 0 ≤ cntAt w mx top A k
  | [] => Int.le_refl _
  | s :: A => by
    have := cntAt_nn (w := w) (mx := mx) (top := top) (k := k) A
    unfold cntAt at this ⊢
    simp only [List.map_cons, List.sum_cons]
    have h2 := ovN_nn (lo := 64 * (mx + (k % w : Nat))) (n := 64) (a := s.2.1) (b := s.2.2)
    split <;> omega
def cntL (w h : Nat) (mx top : Int) (sp : List Sn) : List Int := (List.range (w * h)).map (cntAt w mx top sp)
theorem cntL_len {w h : Nat} {mx top : Int} {sp : List Sn} : (cntL w h mx top sp).length = w * h := by unfold cntL; simp
theorem cntL_step {w h : Nat} {mx top j a b : Int} {r : Nat} {sp : List Sn} (hw : 0 < w) (hr : j / 64 - top = r) : stepC w mx r a b (mx + w) (cntL w h mx top sp) = cntL w h mx top (sp ++ [(j, a, b)]) := by
  unfold stepC cntL
  apply List.ext_getElem?
  intro k
  rw [List.getElem?_mapIdx, List.getElem?_map, List.getElem?_map]
  cases hC : (List.range (w * h))[k]? with
  | none => rfl
  | some u =>
    have hu : u = k := by
      have hk := (List.getElem?_eq_some_iff.mp hC).1
      rw [List.length_range] at hk
      rw [List.getElem?_range hk] at hC
      cases hC; rfl
    subst hu
    simp only [Option.map_some]
    rw [cntAt_app]
    have hm := Nat.mod_lt u hw
    have e : cntAt w mx top [(j, a, b)] u = if (j / 64 - top).toNat = u / w then ovN (64 * (mx + (u % w : Nat))) 64 a b else 0 := by unfold cntAt; simp
    rw [e]
    have hr2 : (j / 64 - top).toNat = r := by omega
    rw [hr2]
    by_cases h1 : u / w = r
    · rw [if_pos ⟨h1, by omega⟩, if_pos h1.symm]
    · rw [if_neg (fun h => h1 h.1), if_neg (fun h => h1 h.symm), Int.add_zero]
theorem cntAt_row {w : Nat} {mx top j : Int} {k : Nat} : ∀ (A : List Sn), (∀ s ∈ A, s.1 = j) → cntAt w mx top A k = if (j / 64 - top).toNat = k / w then ovR (64 * (mx + (k % w : Nat))) 64 A else 0
  | [], _ => by unfold cntAt ovR; simp
  | s :: A, h => by
    have ih := cntAt_row (w := w) (mx := mx) (top := top) (k := k) A (fun x hx => h x (by simp [hx]))
    have hs := h s (by simp)
    unfold cntAt ovR at ih ⊢
    simp only [List.map_cons, List.sum_cons, ih, hs]
    split <;> omega
theorem spR_fst {j : Int} : ∀ (cs : List Cr) (w : Int), ∀ s ∈ spR j w cs, s.1 = j
  | [], _, s, h => by cases h
  | c :: cs, w, s, h => by
    simp only [spR] at h
    rcases List.mem_append.mp h with h | h
    · split at h
      · cases h
      · cases cs with
        | nil => cases h
        | cons d ds => rw [List.mem_singleton.mp h]
    · exact spR_fst cs _ s h
theorem cntAt_spans {SM : List Cr → List Cr} (hp : ∀ C, (SM C).Perm C) (ho : ∀ C, Srt Prod.fst (SM C)) {l : List Ed} (hz : ∀ j, sumB (crossM l j) = 0) {w : Nat} {mx top : Int} {k : Nat} :
    ∀ m : Nat, cntAt w mx top (spansM SM l (64 * top) m) k = if m ≤ 64 * (k / w) then 0 else rowsC l (64 * (top + (k / w : Nat))) (64 * (mx + (k % w : Nat))) 64 (min (m - 64 * (k / w)) 64)
  | 0 => by rw [if_pos (Nat.zero_le _)]; rfl
  | m + 1 => by
    rw [spans_succ, cntAt_app, cntAt_spans hp ho hz m, cntAt_row _ (spR_fst _ _), spR_row (ho _) (by rw [sumB_perm (hp _)]; exact hz _)]
    have hj : ((64 * top + (m : Int)) / 64 - top).toNat = m / 64 := by omega
    rw [hj]
    generalize hq : k / w = q
    by_cases h1 : m / 64 = q
    · rw [if_pos h1, if_neg (show ¬ m + 1 ≤ 64 * q by omega)]
      obtain ⟨i, hi⟩ : ∃ i, m = 64 * q + i := ⟨m - 64 * q, by omega⟩
      have e1 : min (m + 1 - 64 * q) 64 = i + 1 := by omega
      rw [e1]
      simp only [rowsC]
      have e2 : cnt (64 * (mx + (k % w : Nat))) 64 (fun i_1 => decide (windC (SM (crossM l (64 * top + (m : Int)))) i_1 ≠ 0)) = cnt (64 * (mx + (k % w : Nat))) 64 (fun i_1 => decide (windC (crossM l (64 * (top + (q : Int)) + (i : Int))) i_1 ≠ 0)) := by
        refine cnt_congr fun x _ _ => ?_
        rw [windC_perm (hp _), show 64 * top + (m : Int) = 64 * (top + (q : Int)) + (i : Int) by omega]
      rw [e2]
      congr 1
      by_cases h0 : m ≤ 64 * q
      · rw [if_pos h0, show i = 0 by omega]; rfl
      · rw [if_neg h0, show min (m - 64 * q) 64 = i by omega]
    · rw [if_neg h1, Int.add_zero]
      by_cases h2 : m + 1 ≤ 64 * q
      · rw [if_pos h2, if_pos (by omega)]
      · rw [if_neg h2, if_neg (show ¬ m ≤ 64 * q by omega), show min (m + 1 - 64 * q) 64 = 64 by omega, show min (m - 64 * q) 64 = 64 by omega]
theorem cntAt_full {SM : List Cr → List Cr} (hp : ∀ C, (SM C).Perm C) (ho : ∀ C, Srt Prod.fst (SM C)) {p : List (List Spt)} {l : List Ed} (hl : l.Perm (edgesM p)) {w h : Nat} {mx top : Int} {k : Nat} (hk : k < w * h) :
    cntAt w mx top (spansM SM l (64 * top) (64 * h)) k = cellsM p (mx + (k % w : Nat)) (top + (k / w : Nat)) := by
  have hz : ∀ j, sumB (crossM l j) = 0 := fun j => by rw [sumB_perm (crossM_perm hl j)]; exact closed j p
  have hq : k / w < h := Nat.div_lt_of_lt_mul hk
  rw [cntAt_spans hp ho hz, if_neg (by omega), show min (64 * h - 64 * (k / w)) 64 = 64 by omega]
  unfold cellsM
  exact rowsC_perm hl 64
/-! ### The box about all points -/
def inB (b : Bx) (s : Spt) : Prop := (b.x0 ≤ s.1 ∧ s.1 ≤ b.x1) ∧ b.y0 ≤ s.2 ∧ s.2 ≤ b.y1
theorem addB_in (b : Bx) (s : Spt) : inB (addB b s) s := by
  unfold addB inB minI maxI
  split
  · dsimp only; refine ⟨⟨?_, ?_⟩, ?_, ?_⟩ <;> split <;> omega
  · exact ⟨⟨Int.le_refl _, Int.le_refl _⟩, Int.le_refl _, Int.le_refl _⟩
theorem addB_mono {b : Bx} {s t : Spt} (hb : b.so = true) (h : inB b t) : inB (addB b s) t := by
  unfold addB inB minI maxI at *
  rw [if_pos hb]
  dsimp only
  obtain ⟨⟨h1, h2⟩, h3, h4⟩ := h
  refine ⟨⟨?_, ?_⟩, ?_, ?_⟩ <;> split <;> omega
theorem addB_so (b : Bx) (s : Spt) : (addB b s).so = true := by unfold addB; split <;> rfl
theorem fold_in : ∀ (c : List Spt) (b : Bx) (Q : Spt → Prop), (b.so = true → ∀ t, Q t → inB b t) → (b.so = false → ∀ t, ¬ Q t) → ∀ t, (Q t ∨ t ∈ c) → inB (c.foldl addB b) t
  | [], b, Q, h1, h2, t, ht => by
    rcases ht with ht | ht
    · cases hs : b.so with
      | true => exact h1 hs t ht
      | false => exact absurd ht (h2 hs t)
    · cases ht
  | s :: c, b, Q, h1, h2, t, ht => by
    rw [List.foldl_cons]
    refine fold_in c (addB b s) (fun t => Q t ∨ t = s) (fun _ t ht => ?_) (fun h => by rw [addB_so] at h; cases h) t ?_
    · rcases ht with ht | rfl
      · cases hs : b.so with
        | true => exact addB_mono hs (h1 hs t ht)
        | false => exact absurd ht (h2 hs t)
      · exact addB_in b t
    · rcases ht with ht | ht
      · exact .inl (.inl ht)
      · rcases List.mem_cons.mp ht with rfl | ht
        · exact .inl (.inr rfl)
        · exact .inr ht
theorem box_flat (p : List (List Spt)) : boxM p = p.flatten.foldl addB ⟨0, 0, 0, 0, false⟩ := by unfold boxM; rw [List.foldl_flatten]
theorem box_in {p : List (List Spt)} {c : List Spt} {s : Spt} (hc : c ∈ p) (hs : s ∈ c) : inB (boxM p) s := by
  rw [box_flat]
  exact fold_in _ _ (fun _ => False) (fun h => by cases h) (fun _ _ h => h) s (.inr (List.mem_flatten.mpr ⟨c, hc, hs⟩))
theorem fold_so : ∀ (c : List Spt) (b : Bx), (c.foldl addB b).so = (b.so || !c.isEmpty)
  | [], b => by simp
  | s :: c, b => by rw [List.foldl_cons, fold_so c, addB_so]; simp
theorem edges_in {p : List (List Spt)} : ∀ e ∈ edgesM p, ((boxM p).x0 ≤ e.x0 ∧ e.x0 ≤ (boxM p).x1) ∧ (boxM p).x0 ≤ e.x1 ∧ e.x1 ≤ (boxM p).x1 := by
  intro e he
  unfold edgesM at he
  obtain ⟨c, hc, he⟩ := List.mem_flatMap.mp he
  unfold edgesC at he
  obtain ⟨i, hi, he⟩ := List.mem_flatMap.mp he
  have hi := List.mem_range.mp hi
  have hm : (i + 1) % c.length < c.length := Nat.mod_lt _ (by omega)
  have g : ∀ k, k < c.length → inB (boxM p) (c.getD k (0, 0)) := fun k hk => by
    rw [List.getD_eq_getElem?_getD, List.getElem?_eq_getElem hk]
    exact box_in hc (List.getElem_mem hk)
  have g1 := g _ hi
  have g2 := g _ hm
  unfold edgeAt edgeM at he
  split at he
  · rw [List.mem_singleton.mp he]; exact ⟨g1.1, g2.1⟩
  · split at he
    · rw [List.mem_singleton.mp he]; exact ⟨g2.1, g1.1⟩
    · cases he
end Go.Proofs.Ytmlplblhabdbpaa

namespace Go.Proofs.Ytmlplblhabdbpaa
open Go.Ab
variable {X : CallE} {ro : Nat}
set_option maxRecDepth 10000
set_option linter.unusedVariables false
set_option linter.unusedSimpArgs false

theorem rep_one (v : Value) : ∀ n, repeatL [v] n = List.replicate n v
  | 0 => rfl
  | n + 1 => by simp only [repeatL, rep_one v n, List.replicate_succ, List.singleton_append]
theorem cntL_nil (w h : Nat) (mx top : Int) : (cntL w h mx top []).map (Value.int .i64) = List.replicate (w * h) (.int .i64 0) := by
  unfold cntL
  rw [List.map_map]
  have : (Value.int .i64 ∘ cntAt w mx top []) = fun _ => Value.int .i64 0 := by funext k; rfl
  rw [this, List.map_const', List.length_range]
/-- The closure of counted tells its spans. -/
theorem cntRSpan {bb bt bm bc e1 e2 e3 : Nat} {at' top mx my : Int} {w h : Nat} {cov : Value} {full : List Sn} (hX : OwnX X) (hw : 0 < w ∧ w ≤ 512) (hh : h ≤ 512) (htop : -4294967296 ≤ top ∧ top ≤ 4294967296) (hmx : -4294967296 ≤ mx ∧ mx ≤ 4294967296)
    (hn1 : bb ≠ bc) (hn2 : bt ≠ bc) (hn3 : bm ≠ bc) (hgeo : ∀ s ∈ full, (∃ i : Nat, i < 64 * h ∧ s.1 = 64 * top + i) ∧ 64 * mx ≤ s.2.1 ∧ s.2.1 ≤ s.2.2 ∧ s.2.2 ≤ 64 * (mx + w)) (htot : ∀ k, k < w * h → cntAt w mx top full k ≤ 4096) :
    Span X ro (.func (.func 38) #[] #[.pointer (some ⟨bb, 0, none⟩), .pointer (some ⟨bt, 0, none⟩), .pointer (some ⟨bm, 0, none⟩)]) (fun ν => ν = bb ∨ ν = bt ∨ ν = bm ∨ ν = bc)
      (fun sp H => H bb = some (.row e1 [.int .i64 at', .slice (some ⟨bc, 0, none⟩) (w * h) (w * h)]) ∧ H bt = some (.row e2 [.int .i64 top]) ∧ H bm = some (.row e3 [.int .i64 mx, .int .i64 my, .int .i64 w, .int .i64 h, cov]) ∧ H bc = some (.row 1 ((cntL w h mx top sp).map (.int .i64)))) full where
  fn := by
    refine ⟨_, _, rfl, fun s H l j a b l2 hM ⟨h1, h2, h3, h4⟩ hf => ?_⟩
    have hm : (j, a, b) ∈ full := by rw [hf]; simp
    obtain ⟨⟨i, hi, hj⟩, g1, g2, g3⟩ := hgeo _ hm
    dsimp only at hj g1 g2 g3
    have hr : j / 64 - top = ((i / 64 : Nat) : Int) := by omega
    have hCb : ∀ v ∈ cntL w h mx top l, 0 ≤ v ∧ v ≤ 1000000000000 := fun v hv => by
      unfold cntL at hv
      obtain ⟨k, hk, rfl⟩ := List.mem_map.mp hv
      have hk := List.mem_range.mp hk
      have h5 := htot k hk
      rw [hf, cntAt_app] at h5
      have h6 := cntAt_nn (w := w) (mx := mx) (top := top) (k := k) l
      have h7 := cntAt_nn (w := w) (mx := mx) (top := top) (k := k) ((j, a, b) :: l2)
      omega
    refine (cntR_sp hX hM h1 h2 h3 h4 cntL_len hw hh hr (by omega) htop hmx ⟨g1, by omega⟩ g3 g2 hCb hn1 hn2 hn3).mono ?_
    rintro v H' ⟨rfl, rfl⟩
    refine ⟨rfl, ⟨Hp.up_ne hn1 h1, Hp.up_ne hn2 h2, Hp.up_ne hn3 h3, ?_⟩, fun ν o hB e => Hp.up_ne (fun h => hB (.inr (.inr (.inr h)))) e⟩
    rw [Hp.up_same, cntL_step hw.1 hr]
  fr := fun l H H' ⟨h1, h2, h3, h4⟩ h => ⟨h _ _ (.inl rfl) h1, h _ _ (.inr (.inl rfl)) h2, h _ _ (.inr (.inr (.inl rfl))) h3, h _ _ (.inr (.inr (.inr rfl))) h4⟩
  pres := fun l H ν ⟨h1, h2, h3, h4⟩ hB => by rcases hB with rfl | rfl | rfl | rfl <;> exact ⟨_, by assumption⟩
set_option maxHeartbeats 1000000 in
/-- raster.counted, a whole mask. -/
theorem counted_sp {s : St} {H : Hp} {ve cov : Value} {L : List Ed} {p : List (List Spt)} {mx my : Int} {w h : Nat} {SM : List Cr → List Cr} (hX : OwnX X) (hE : ExtOk X ro SM) (hM : Models ro s H) (hve : SlO H ve 5 L.length (L.flatMap encE)) (hpe : L.Perm (edgesM p)) (hse : Srt Ed.y0 L)
    (hwide : wideM p = false) (htot : totM p ≤ 16384) (hw : 0 < w ∧ w ≤ 512) (hh : h ≤ 512) (hmx : -16777216 ≤ mx ∧ mx ≤ 16777216) (hmy : -16777216 ≤ my ∧ my ≤ 16777216) (hbx : 64 * mx ≤ (boxM p).x0 ∧ (boxM p).x1 ≤ 64 * (mx + w)) (hcov : oneC cov = true) (hcov2 : cellsV cov = some [cov]) :
    Sp X Try.prog ro 27 [ve, .agg #[.int .i64 mx, .int .i64 my, .int .i64 w, .int .i64 h, cov], .int .i64 0, .int .i64 h] s fun v H' => ∃ bc, v = .agg #[.int .i64 0, .slice (some ⟨bc, 0, none⟩) (w * h) (w * h)] ∧ H bc = none ∧ Ext H H' ∧
      H' bc = some (.row 1 (((List.range (w * h)).map fun k => cellsM p (mx + (k % w : Nat)) (my + (k / w : Nat))).map (.int .i64))) := by
  have hwh0 : w * h ≤ 512 * 512 := Nat.mul_le_mul hw.2 hh
  have hwh : 0 ≤ (w : Int) * (h : Int) ∧ (w : Int) * (h : Int) ≤ 262144 := by rw [← Int.natCast_mul]; omega
  have hwn : ((w : Int) * (h : Int)).toNat = w * h := by rw [← Int.natCast_mul]; exact Int.toNat_natCast _
  refine Sp.of_body (hX _ _ _ (by decide) (by decide) (by decide) (by decide)) Try.func27 rfl Try.ntmps27 (by simp) ?_
  refine WC.seq ?_
  refine WC.region ?_
  refine WO.cons (SV.boxM (by assumption) rfl (fun a0_0 s0_0 hf0_0 hne0_0 hn0_0 hM0_0 => ?_)) (by decide)
  refine WO.cons (SV.allocM (by assumption) (fun a0_1 s0_1 hf0_1 hne0_1 hn0_1 hM0_1 => ?_)) (by decide)
  refine WO.nil ?_
  replace hM0_1 : Models ro s0_1 ((H.up a0_0 (.row 0 [.int .i64 mx, .int .i64 my, .int .i64 w, .int .i64 h, cov])).up a0_1 (.row 0 [.int .i64 0, .slice none 0 0])) := hM0_1
  have hE0 : Ext H (H.up a0_0 (.row 0 [.int .i64 mx, .int .i64 my, .int .i64 w, .int .i64 h, cov])) := ext_up hne0_0
  have hE1 : Ext (H.up a0_0 (.row 0 [.int .i64 mx, .int .i64 my, .int .i64 w, .int .i64 h, cov])) ((H.up a0_0 (.row 0 [.int .i64 mx, .int .i64 my, .int .i64 w, .int .i64 h, cov])).up a0_1 (.row 0 [.int .i64 0, .slice none 0 0])) := ext_up hne0_1
  have hbm1 := hE1 _ _ (Hp.up_same (H := H) (ν := a0_0) (o := .row 0 [.int .i64 mx, .int .i64 my, .int .i64 w, .int .i64 h, cov]))
  have hb8 : ((H.up a0_0 (.row 0 [.int .i64 mx, .int .i64 my, .int .i64 w, .int .i64 h, cov])).up a0_1 (.row 0 [.int .i64 0, .slice none 0 0])) a0_1 = some (.row 0 [.int .i64 0, .slice none 0 0]) := Hp.up_same
  have hE01 := hE0.trans hE1
  have hfm : H a0_0 = none := hf0_0
  have hf8 : H a0_1 = none := by
    cases e : H a0_1 with
    | none => rfl
    | some o => exact absurd rfl (hne0_1 _ _ (hE0 _ _ e))
  have hne8 : a0_0 ≠ a0_1 := hne0_1 _ _ Hp.up_same
  generalize (H.up a0_0 (.row 0 [.int .i64 mx, .int .i64 my, .int .i64 w, .int .i64 h, cov])).up a0_1 (.row 0 [.int .i64 0, .slice none 0 0]) = H1 at *
  refine WC.seq ?_
  refine WC.region ?_
  refine WO.cons (SV.moveV (by constructor) ?_) (by decide)
  refine WO.cons (SV.fieldAddr rfl ?_) (by decide)
  refine WO.cons (SV.loadM (by assumption) rfl (by assumption) (by rfl) ?_) (by decide)
  refine WO.cons (SV.moveV (by constructor) ?_) (by decide)
  refine WO.cons (SV.mul64 rfl rfl (by omega) ?_) (by decide)
  refine WO.cons (SV.makeSliceM (by assumption) rfl rfl (by refine ⟨?_, ?_, ?_, ?_, rfl, by decide⟩ <;> omega) (fun a1_5 s1_5 hf1_5 hne1_5 hn1_5 hM1_5 => ?_)) (by decide)
  refine WO.cons (SV.build rfl ?_) (by decide)
  refine WO.cons (SV.allocM (by assumption) (fun a1_7 s1_7 hf1_7 hne1_7 hn1_7 hM1_7 => ?_)) (by decide)
  refine WO.cons0 (SV.storeMA (by assumption) rfl rfl rfl rfl (by exact Hp.up_same) (by (simp; done)) (fun s1_8 hn1_8 hM1_8 => ?_))
  refine WO.nil ?_
  rw [Hp.up_up, hwn] at hM1_8
  rw [hwn] at hne1_7 hf1_7
  rw [hwn]
  replace hM1_8 : Models ro s1_8 ((H1.up a1_5 (.row 1 (repeatL [.int .i64 0] (w * h)))).up a1_7 (.row 0 [.int .i64 0, .slice (some ⟨a1_5, 0, none⟩) (w * h) (w * h)])) := hM1_8
  have hE2 : Ext H1 (H1.up a1_5 (.row 1 (repeatL [.int .i64 0] (w * h)))) := ext_up hne1_5
  have hE3 : Ext (H1.up a1_5 (.row 1 (repeatL [.int .i64 0] (w * h)))) ((H1.up a1_5 (.row 1 (repeatL [.int .i64 0] (w * h)))).up a1_7 (.row 0 [.int .i64 0, .slice (some ⟨a1_5, 0, none⟩) (w * h) (w * h)])) := ext_up hne1_7
  have hfc1 : H1 a1_5 = none := hf1_5
  have hcb : a1_5 ≠ a1_7 := hne1_7 _ _ Hp.up_same
  have hrc := hE3 _ _ (Hp.up_same (H := H1) (ν := a1_5) (o := .row 1 (repeatL [.int .i64 0] (w * h))))
  have hrb : ((H1.up a1_5 (.row 1 (repeatL [.int .i64 0] (w * h)))).up a1_7 (.row 0 [.int .i64 0, .slice (some ⟨a1_5, 0, none⟩) (w * h) (w * h)])) a1_7 = some (.row 0 [.int .i64 0, .slice (some ⟨a1_5, 0, none⟩) (w * h) (w * h)]) := Hp.up_same
  have hfb1 : H1 a1_7 = none := by
    cases e : H1 a1_7 with
    | none => rfl
    | some o => exact absurd rfl (hne1_7 _ _ (hE2 _ _ e))
  have hE13 := hE2.trans hE3
  generalize (H1.up a1_5 (.row 1 (repeatL [.int .i64 0] (w * h)))).up a1_7 (.row 0 [.int .i64 0, .slice (some ⟨a1_5, 0, none⟩) (w * h) (w * h)]) = H3 at *
  have hbm3 := hE13 _ _ hbm1
  refine WC.seq ?_
  refine WC.region ?_
  refine WO.cons (SV.fieldAddr rfl ?_) (by decide)
  refine WO.cons (SV.loadM (by assumption) rfl (by assumption) (by rfl) ?_) (by decide)
  refine WO.cons (SV.moveV (by constructor) ?_) (by decide)
  refine WO.cons (SV.add64 rfl rfl (by omega) ?_) (by decide)
  refine WO.cons (SV.allocM (by assumption) (fun a2_4 s2_4 hf2_4 hne2_4 hn2_4 hM2_4 => ?_)) (by decide)
  refine WO.cons0 (SV.storeV (by assumption) rfl (by constructor) (by exact Hp.up_same) (by (simp; done)) (fun s2_5 hn2_5 hM2_5 => ?_))
  refine WO.nil ?_
  rw [Hp.up_up] at hM2_5
  replace hM2_5 : Models ro s2_5 (H3.up a2_4 (.row 0 [.int .i64 (my + 0)])) := hM2_5
  rw [Int.add_zero] at hM2_5
  have hE4 : Ext H3 (H3.up a2_4 (.row 0 [.int .i64 my])) := ext_up hne2_4
  have hrt : (H3.up a2_4 (.row 0 [.int .i64 my])) a2_4 = some (.row 0 [.int .i64 my]) := Hp.up_same
  have hft : ∀ ν o, H3 ν = some o → ν ≠ a2_4 := hne2_4
  generalize H3.up a2_4 (.row 0 [.int .i64 my]) = H4 at *
  have hE04 := (hE01.trans hE13).trans hE4
  have hLok : ∀ e ∈ L, e.Ok ∧ e.y0 < e.y1 ∧ (e.by' = 1 ∨ e.by' = -1) := fun e he => edgesM_ok hwide e (hpe.mem_iff.mp he)
  have hLl : L.length ≤ 16384 := by rw [hpe.length_eq]; have := edgesM_len p; omega
  have hLz : ∀ j, sumB (crossM L j) = 0 := fun j => by rw [sumB_perm (crossM_perm hpe j)]; exact closed j p
  have hgeo := spans_geo hE.perm hE.ord (l := L) (lo := (boxM p).x0) (hi := (boxM p).x1) (fun e he => edges_in e (hpe.mem_iff.mp he)) (j0 := 64 * my) (m := 64 * h)
  have hspan := cntRSpan (X := X) (ro := ro) (bb := a1_7) (bt := a2_4) (bm := a0_0) (bc := a1_5) (e1 := 0) (e2 := 0) (e3 := 0) (at' := 0) (top := my) (mx := mx) (my := my) (w := w) (h := h) (cov := cov) (full := spansM SM L (64 * my) (64 * h)) hX hw hh (by omega) (by omega)
    (Ne.symm hcb) (fun e => hft _ _ hrc e.symm) (fun e => by rw [e, hfc1] at hbm1; cases hbm1) (fun s hs => by
      obtain ⟨g1, g2, g3, g4⟩ := hgeo s hs
      exact ⟨g1, by omega, g3, by omega⟩) (fun k hk => by rw [cntAt_full hE.perm hE.ord hpe hk]; exact (cells_bd p _ _).2)
  refine WC.seq ?_
  refine WC.region ?_
  refine WO.cons (SV.move ?_) (by decide)
  refine WO.cons (SV.loadM (by assumption) rfl (by assumption) (by rfl) ?_) (by decide)
  refine WO.cons (SV.mul64 rfl rfl (by omega) ?_) (by decide)
  refine WO.cons (SV.loadM (by assumption) rfl (by assumption) (by rfl) ?_) (by decide)
  refine WO.cons (SV.moveV (by constructor) ?_) (by decide)
  refine WO.cons (SV.add64 rfl rfl (by omega) ?_) (by decide)
  refine WO.cons (SV.mul64 rfl rfl (by omega) ?_) (by decide)
  refine WO.cons (SV.makeFunc ?_) (by decide)
  refine WO.cons ?_ (by decide)
  have hz1 : (64 * (my + h) - 64 * my).toNat = 64 * h := by omega
  have hfb : ∀ μ, (μ = a1_7 ∨ μ = a2_4 ∨ μ = a0_0 ∨ μ = a1_5) → H μ = none := fun μ hB => by
    cases e : H μ with
    | none => rfl
    | some o =>
      rcases hB with rfl | rfl | rfl | rfl
      · have := hE01 _ _ e; rw [hfb1] at this; cases this
      · exact absurd rfl (hft _ _ ((hE01.trans hE13) _ _ e))
      · rw [hfm] at e; cases e
      · have := hE01 _ _ e; rw [hfc1] at this; cases this
  refine SV.callM rfl rfl (rows_sp (v := ve) (B := fun ν => ν = a1_7 ∨ ν = a2_4 ∨ ν = a0_0 ∨ ν = a1_5)
    (Iv := fun sp H => H a1_7 = some (.row 0 [.int .i64 0, .slice (some ⟨a1_5, 0, none⟩) (w * h) (w * h)]) ∧ H a2_4 = some (.row 0 [.int .i64 my]) ∧ H a0_0 = some (.row 0 [.int .i64 mx, .int .i64 my, .int .i64 w, .int .i64 h, cov]) ∧ H a1_5 = some (.row 1 ((cntL w h mx my sp).map (.int .i64))))
    (SM := SM) (j0 := 64 * my) (j1 := 64 * (my + h)) hX hE hM2_5 (slO_ext hve fun μ o _ e => hE04 μ o e) hLl hLok hse hLz (by omega) (by omega) (by omega) (by rw [hz1]; exact hspan) ⟨hE4 _ _ hrb, hrt, hE4 _ _ hbm3, by rw [cntL_nil, ← rep_one]; exact hE4 _ _ hrc⟩ (fun μ e hB => by
      obtain ⟨o, ho⟩ := hve.base_some e
      rw [hfb μ hB] at ho; cases ho)) ?_
  rintro v s5 H5 hn5 hM5 ⟨rfl, ⟨hb5, ht5, hm5, hc5⟩, hf5⟩
  rw [hz1] at hc5
  have hcnt : cntL w h mx my (spansM SM L (64 * my) (64 * h)) = (List.range (w * h)).map fun k => cellsM p (mx + (k % w : Nat)) (my + (k / w : Nat)) := by
    unfold cntL
    apply List.map_congr_left
    intro k hk
    exact cntAt_full hE.perm hE.ord hpe (List.mem_range.mp hk)
  rw [hcnt] at hc5
  have hnB8 : ¬ (a0_1 = a1_7 ∨ a0_1 = a2_4 ∨ a0_1 = a0_0 ∨ a0_1 = a1_5) := fun hB => by
    rcases hB with h | h | h | h
    · rw [h, hfb1] at hb8; cases hb8
    · exact hft _ _ (hE13 _ _ hb8) h
    · exact hne8 h.symm
    · rw [h, hfc1] at hb8; cases hb8
  have hb85 := hf5 _ _ hnB8 (hE4 _ _ (hE13 _ _ hb8))
  have hE5 : Ext H H5 := fun ν o e => hf5 ν o (fun hB => by rw [hfb ν hB] at e; cases e) (hE04 ν o e)
  refine WO.nil ?_
  refine WC.seq ?_
  refine WC.region ?_
  refine WO.cons ?_ (by decide)
  refine SV.loadMA (l := [.int .i64 0, .slice (some ⟨a1_5, 0, none⟩) (w * h) (w * h)]) hM5 rfl hb5 rfl (fun i v hv => by rw [Nat.zero_add]; exact hv) ?_
  refine WO.cons0 (SV.storeMA (by assumption) rfl rfl rfl rfl (by assumption) (by (simp; done)) (fun s4_1 hn4_1 hM4_1 => ?_))
  refine WO.nil ?_
  refine WC.ret ?_
  change FinM Try.prog ro s.next Try.f27 _ Ex.ret _ [] _
  refine fin_cellA2 (e := .ret) (es := 0) (vs := [.int .i64 0, .slice (some ⟨a1_5, 0, none⟩) (w * h) (w * h)]) rfl trivial rfl Hp.up_same rfl (by omega) hM4_1 (hM4_1.sub (H' := fun μ => if μ = a0_1 then none else H5 μ) fun ν o e => ?_) ⟨a1_5, rfl, hfb _ (.inr (.inr (.inr rfl))), fun ν o e => ?_, ?_⟩
  · by_cases hb : ν = a0_1
    · simp only [hb, if_true] at e; cases e
    · simp only [hb, if_false] at e; exact Hp.up_ne hb e
  · have : ν ≠ a0_1 := fun h => by rw [h, hf8] at e; cases e
    simp only [this, if_false]; exact hE5 ν o e
  · have : a1_5 ≠ a0_1 := fun h => hnB8 (.inr (.inr (.inr h.symm)))
    simp only [this, if_false]; exact hc5
end Go.Proofs.Ytmlplblhabdbpaa
