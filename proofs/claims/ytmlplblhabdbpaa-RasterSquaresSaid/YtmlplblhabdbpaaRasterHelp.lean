/- Helps for the walks of RasterSquares: a call of a function that a temporary holds, with what it has captured; a row of one number told as a variable in a cell of its own; 'clear' behind a slice. No condition but the contract. -/
import Derived.Test.YtmlplblhabdbpaaWLast
import Derived.Test.YtmlplblhabdbpaaWMore
import Derived.Test.YtmlplblhabdbpaaWRepsOne
import Derived.Deep.OwnRows
import Derived.LoopN
import Derived.Lib.SliceRun
import Derived.Test.YtmlplblhabdbpaaProg
namespace Go.Proofs.Ytmlplblhabdbpaa
open Go.RowKit Go.Proofs.YtmlplblhabdbpaaW.PrintWords Go.Proofs.YtmlplblhabdbpaaW.PrintLast Go.Proofs.YtmlplblhabdbpaaW.PrintMore
set_option linter.unusedVariables false
section
variable {P : Program} {ops : Array Oper} {Q : Exit → Act → World → Prop}
theorem goesV_ {rest : List Oper} {oi : Oper} {a : Act} {w : World} (N : Option Tmp) (hd : oi.dst = N) (hg : oi.guard = none) {f : FuncId} {fn : Func} {o : Operand} {ars : Array Operand} {ts : Array TypeId} {cb : Array Value} (hf : P.funcs[f]? = some fn) (hname : (fn.name == "runtime.NumGoroutine") = false) (hb : fn.body.isSome = true) (args : Array Value)
    (hop : oi.op = .call { callee := .value o, args := ars, argTypes := ts }) (hv : a.eval o = .func (.func f) #[] cb) (hargs : ars.map a.eval ++ cb = args)
    (h : Calls P f args w fun e w' => ∃ v, e = .returned v ∧ wpList P ops Q rest (a.put N v) w') : wpList P ops Q (oi :: rest) a w := by
  refine wpList_plain hg fun K hK => ?_
  have he := enters_ hf hname hb args w
  have hrun : (execOp a.eval oi).run P w = .ok (.enter f args) w := by
    unfold execOp
    simp [hop, resolve, Deferred.ofValue, invoke, hv, hargs, he]
  unfold Oper.wp
  rw [hrun, Oper.upon_enter]
  refine h.mono fun e w'' hh => ?_
  obtain ⟨v, rfl, hk⟩ := hh
  subst hd
  exact hK _ _ hk
/-- The same where a region's order is drawn. -/
theorem goesH_ {oi : Oper} {N : Option Tmp} {a : Act} {w : World} {K : Act → World → Prop} {f : FuncId} {fn : Func} {o : Operand} {ars : Array Operand} {ts : Array TypeId} {cb : Array Value} (hf : P.funcs[f]? = some fn) (hname : (fn.name == "runtime.NumGoroutine") = false) (hb : fn.body.isSome = true) (args : Array Value)
    (hw : Region.wanted oi (yielded ops a.tmps) = true) (hN : oi.dst = N) (hop : oi.op = .call { callee := .value o, args := ars, argTypes := ts }) (hv : a.eval o = .func (.func f) #[] cb) (hargs : ars.map a.eval ++ cb = args)
    (h : Calls P f args w fun e w' => ∃ v, e = .returned v ∧ K (a.put N v) w') : if Region.wanted oi (yielded ops a.tmps) = true then Oper.wp P oi a w K Q else K (a.put N undef) w := by
  refine call_ f args hw hN ?_ h
  have he := enters_ hf hname hb args w
  unfold execOp
  simp [hop, resolve, Deferred.ofValue, invoke, hv, hargs, he]
end
/-- A row of one number, told as the cell that holds it. -/
def ptrV : Value → Value
  | .slice A _ _ => .pointer A
  | v => v
theorem ptrV_slice (A : Option Addr) (n c : Nat) : ptrV (.slice A n c) = .pointer A := rfl
section
variable {P : Program} {α : Type} {d : Kd α} {t e : TypeId} {z : Value} {base n c : Nat} {W : World} {ok : Nat → Prop} {A : Option Addr} {xs : List α}
theorem below_setCells {b : Nat} {w0 : World} {g : Nat} (hg : b ≤ g) : ∀ (vs : List Value) (o : Nat) {w : World}, Below b w0 w → Below b w0 (w.setCells g o vs)
  | [], _, _, h => h
  | v :: r, o, w, h => by rw [World.setCells]; exact below_setCells hg r (o + 1) (h.setCell hg _)
theorem zero_run {i : TypeInfo} (hi : P.info? e = some i) (hz : i.zero = some z) : ∀ w, (zeroValue e).run P w = .ok z w := fun w => by
  simp [zeroValue, typeInfo, hi, hz]
/-- 'clear(xs[j:])', ahead of 'xs[:j]'. -/
theorem clear_tail (ht : P.underlying t = some (.slice e)) (hv : ∀ w, (zeroValue e).run P w = .ok z w) (hz : z.cells.size = d.sz) (h1 : ∀ v ∈ z.cells, v.oneCell' = true)
    (h : d.R e W base ok (.slice A n c) xs) (j : Int) (h0 : 0 ≤ j) (hm : j ≤ n) : ∃ W', (∀ ty, (Builtin.clear_ #[t] ty #[.slice (if c = j.toNat then A else A.map (·.add (j.toNat * d.sz))) (n - j.toNat) (c - j.toNat)]).run P W = .ok (.tuple #[]) W') ∧
      d.R e W' base ok (.slice A j.toNat c) (xs.take j.toNat) ∧ W.grownBy W' (Value.slice A n c).ownBlock ∧ ∀ b w0, Below b w0 W → b ≤ base → Below b w0 W' := by
  obtain ⟨hn, hnc, hC⟩ := Kd.R_reads' h
  have hT := Kd.R_take (m := j.toNat) h (by omega)
  by_cases hj : n - j.toNat = 0
  · refine ⟨W, fun ty => ?_, hT, World.grownBy.refl _ _, fun b w0 hb _ => hb⟩
    rw [hj]
    generalize (if c = j.toNat then A else A.map (·.add (j.toNat * d.sz))) = X
    cases X <;> simp [Builtin.clear_, run_underlying ht]
  · obtain ⟨g, cap, hvv, hgb, hgl, cells, hcells⟩ := Kd.R_form h (by omega)
    injection hvv with ha _ hc
    subst ha; subst hc
    have hne : ¬ c = j.toNat := by omega
    rw [if_neg hne]
    have hX : (some (⟨g, 0, none⟩ : Addr)).map (·.add (j.toNat * d.sz)) = some ⟨g, j.toNat * d.sz, none⟩ := by
      simp only [Option.map_some, add_plain]
    rw [hX]
    obtain ⟨hok, inner, ⟨hl1, hl2⟩, hr⟩ := h
    rcases hl2 with ⟨hvn, _⟩ | ⟨g', cap', cur, hv2, hb2, hh, hnc2, hcm, hcs, htk⟩
    · cases hvn
    injection hv2 with ha _ hc
    injection ha with ha
    injection ha with hg
    subst hg; subst hc
    have hlen : (Builtin.zeroCells z.cells (n - j.toNat)).toList.length = (n - j.toNat) * d.sz := by
      simp [Builtin.zeroCells, hz]
    have hfit : j.toNat * d.sz + (Builtin.zeroCells z.cells (n - j.toNat)).toList.length ≤ cur.size := by
      rw [hlen, hcs, ← Nat.add_mul]
      exact Nat.mul_le_mul_right _ (by omega)
    have hall : ∀ v ∈ (Builtin.zeroCells z.cells (n - j.toNat)).toList, v.oneCell' = true := by
      intro v hv'
      simp only [Builtin.zeroCells, Array.toList_map, Array.toList_range, List.mem_map, List.mem_range] at hv'
      obtain ⟨q, hq, rfl⟩ := hv'
      have hpos : 0 < z.cells.size := by
        rcases Nat.eq_zero_or_pos z.cells.size with h0' | h0'
        · rw [h0'] at hq; omega
        · exact h0'
      have hlt : q % z.cells.size < z.cells.size := Nat.mod_lt _ hpos
      rw [getElem!_pos z.cells _ hlt]
      exact h1 _ (Array.getElem_mem hlt)
    generalize hzs : (Builtin.zeroCells z.cells (n - j.toNat)).toList = zs at hlen hfit hall
    have hst := run_storeCells_cells (P := P) g (j.toNat * d.sz) zs 0 W
      (fun q hq => by rw [Nat.add_zero, cell_of_row W g _ cur e (0, 0) hh, Array.getElem?_eq_getElem (by omega)]; rfl)
      (fun q hq => blk_frozen hh _) hall
    obtain ⟨cur', g1, g2, g3⟩ := setCells_row zs (j.toNat * d.sz) W cur hh hfit
    obtain ⟨s1, s2, s3, s4⟩ := setCells_same g zs (j.toNat * d.sz) W
    refine ⟨W.setCells g (j.toNat * d.sz) zs, fun ty => ?_, ?_, ⟨s1, s2, s3, by rw [s4]; exact Nat.le_refl _, fun k _ hk => setCells_far zs _ k (fun he => hk (by rw [he]; rfl))⟩, fun b w0 hb hbb => below_setCells (Nat.le_trans hbb hb2) zs _ hb⟩
    · obtain ⟨m, hm'⟩ : ∃ m, n - j.toNat = m + 1 := ⟨n - j.toNat - 1, by omega⟩
      rw [hm'] at hzs ⊢
      simp only [Nat.add_zero] at hst
      simp [Builtin.clear_, run_underlying ht, hv, hzs, hst]
    · obtain ⟨hok', inner', ⟨hl1', hl2'⟩, hr'⟩ := hT
      have hxl : (xs.take j.toNat).length = j.toNat := by rw [List.length_take]; omega
      have hjs : j.toNat * d.sz ≤ cur.size := by omega
      refine ⟨hok', inner', ⟨hl1', .inr ⟨g, c, cur', by rw [hxl], hb2, g1, by omega, hcm, by rw [g2, hcs], ?_⟩⟩, hr'.imp_ (fun _ _ hp => d.M_move (fun k hk => setCells_far zs _ k (fun he => hk.2 (by rw [he]; rfl))) hp)⟩
      rcases hl2' with ⟨hvn, _⟩ | ⟨g', cap', cur2, hv2, _, hh2, _, _, _, htk2⟩
      · cases hvn
      injection hv2 with ha _ hc
      injection ha with ha
      injection ha with hg
      subst hg; subst hc
      rw [hh] at hh2
      injection hh2 with hh2
      injection hh2 with hh2
      subst hh2
      rw [hxl] at htk2 ⊢
      rw [g3, ← htk2, List.append_assoc, List.take_append_of_le_length (by rw [List.length_take, Array.length_toList]; omega), List.take_take, Nat.min_self]
end
/-- What the cell of such a row holds. -/
theorem cellJ {W : World} {base n c : Nat} {ok : Nat → Prop} {ad : Addr} {l : List Int} (h : (Kd.int .i64).R 3 W base ok (.slice (some ad) n c) l) (hl : 0 < l.length) : W.cell? ad = some (.int .i64 (rd l 0)) := by
  obtain ⟨h1, h2, h3⟩ := Kd.R_reads' h
  obtain ⟨ad', e, hx⟩ := Kd.at_int h3 0 (by omega) (by omega)
  cases e
  rw [show ((0 : Int)).toNat = 0 from rfl, Addr.add_zero'] at hx
  exact hx
section
variable {ops : Array Oper} {Q : Exit → Act → World → Prop} {rest : List Oper} {o1 o2 : Oper} {a : Act} {W : World}
/-- A variable in a cell of its own, with its first value: a row of one number. -/
theorem cell_lit (N : Tmp) (x : Int) {y : Operand} (hd1 : o1.dst = some N) (hg1 : o1.guard = none) (hop1 : o1.op = .alloc 3) (hd2 : o2.dst = none) (hg2 : o2.guard = none) (hop2 : o2.op = .store 3 (.tmp N) y)
    (hN : ∀ v, (a.put (some N) v).eval (.tmp N) = v) (hy : ∀ v, (a.put (some N) v).eval y = .int .i64 x)
    (h : ∀ v1 w1, (Kd.int .i64).R 3 w1 W.heap.size (fun _ => True) v1 [x] → Below W.heap.size W w1 → wpList Try.prog ops Q rest (a.put (some N) (ptrV v1)) w1) : wpList Try.prog ops Q (o1 :: o2 :: rest) a W := by
  have hA : (Kd.int .i64).R 3 (W.alloc (.cells #[.int .i64 0] 3 (0, 0))) W.heap.size (fun _ => True) (.slice (some ⟨W.heap.size, 0, none⟩) 1 1) [0] := by
    refine ⟨fun _ _ => trivial, [.int .i64 0], ?_, Reps.one (show Kd.M (Kd.int .i64) _ _ _ 0 [.int .i64 0] from rfl) (Reps.none _ _)⟩
    exact World.ownsRow_lit (base := W.heap.size) (e := 3) (size := 1) W #[.int .i64 0] 1 (Nat.le_refl _) (by simp [maxLen]) rfl
  have hS := (Kd.R_putg hA (0 : Int) x).1
  have hu3 := Try.underlying3
  have ha3 := Try.isAgg3
  have hz3 := Try.sizeOf3
  have hv3 := Try.zeroValue3
  refine Kd.event_run (v := .pointer (some ⟨W.heap.size, 0, none⟩)) (w1 := W.alloc (.cells #[.int .i64 0] 3 (0, 0))) hg1 ?_ ?_
  · unfold execOp
    rw [hop1]
    go_simp
  · rw [hd1]
    have hc : (W.alloc (.cells #[.int .i64 0] 3 (0, 0))).cell? ⟨W.heap.size, 0, none⟩ = some (.int .i64 0) := by simp
    have hf : (W.alloc (.cells #[.int .i64 0] 3 (0, 0))).frozen? ⟨W.heap.size, 0, none⟩ = false := by simp
    refine store_event (w1 := (W.alloc (.cells #[.int .i64 0] 3 (0, 0))).setCell ⟨W.heap.size, 0, none⟩ (.int .i64 x)) hg2 hop2 hd2 ?_ ?_
    · unfold execOp
      rw [hop2]
      have e1 := hN (.pointer (some ⟨W.heap.size, 0, none⟩))
      have e2 := hy (.pointer (some ⟨W.heap.size, 0, none⟩))
      simp only [e1, e2]
      go_simp
    · intro w' hw
      subst hw
      exact h (.slice (some ⟨W.heap.size, 0, none⟩) 1 1) _ hS (below_set (below_alloc (Below.refl _ _) _) (Nat.le_refl _))
/-- The same of a parameter that is boxed. -/
theorem cell_box (N : Tmp) (x : Int) {y : Operand} (hd1 : o1.dst = some N) (hg1 : o1.guard = none) (hop1 : o1.op = .box 3 y) (hy : a.eval y = .int .i64 x)
    (h : ∀ v1 w1, (Kd.int .i64).R 3 w1 W.heap.size (fun _ => True) v1 [x] → Below W.heap.size W w1 → wpList Try.prog ops Q rest (a.put (some N) (ptrV v1)) w1) : wpList Try.prog ops Q (o1 :: rest) a W := by
  have hA : (Kd.int .i64).R 3 (W.alloc (.cells #[.int .i64 x] 3 (0, 0))) W.heap.size (fun _ => True) (.slice (some ⟨W.heap.size, 0, none⟩) 1 1) [x] := by
    refine ⟨fun _ _ => trivial, [.int .i64 x], ?_, Reps.one (show Kd.M (Kd.int .i64) _ _ _ x [.int .i64 x] from rfl) (Reps.none _ _)⟩
    exact World.ownsRow_lit (base := W.heap.size) (e := 3) (size := 1) W #[.int .i64 x] 1 (Nat.le_refl _) (by simp [maxLen]) rfl
  have hu3 := Try.underlying3
  have ha3 := Try.isAgg3
  have hz3 := Try.sizeOf3
  have hv3 := Try.zeroValue3
  refine Kd.event_run (v := .pointer (some ⟨W.heap.size, 0, none⟩)) (w1 := W.alloc (.cells #[.int .i64 x] 3 (0, 0))) hg1 ?_ ?_
  · unfold execOp
    rw [hop1]
    simp only [hy]
    go_simp
  · rw [hd1]
    exact h (.slice (some ⟨W.heap.size, 0, none⟩) 1 1) _ hA (below_alloc (Below.refl _ _) _)
end
end Go.Proofs.Ytmlplblhabdbpaa
