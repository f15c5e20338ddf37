/- How a law's arguments are opened: bytes, rows of bytes; what the listed tables give. What a row's listed tables give: the four package-level variables hold what their text lays. -/
import Derived.Test.YtcjplgcnjfinoaaDoorRows
import Derived.Test.YtcjplgcnjfinoaaDoorLawA
import Derived.WalkKit
import Derived.ProofKit
import Derived.OpenShut
import Derived.Below
import Derived.Carry
import Derived.ChangeSlices
import Derived.Deep.Matrix
import Derived.Deep.DeepHandedRow
import Derived.Lib.LaidTab
namespace Go.Proofs.YtcjplgcnjfinoaaDoor
open Go.ChangeShapes Go.WideShapes Go.ChangeAt Go.RowKit Go.Proofs.YtcjplgcnjfinoaaDoorW.PrintWords Go.Proofs.YtcjplgcnjfinoaaDoorW.PrintMore

theorem laidOut : laidOutB Tryd.prog = true := by kernel_rfl
theorem cellsByte : Tryd.prog.cellsOf 5 = 1 := by kernel_rfl
theorem cellsBytes : Tryd.prog.cellsOf 23 = 1 := by kernel_rfl
theorem bulk_one {H : Type} (d : DataW H) : 1 ≤ Rows.uptoBulk d := by
  cases d with
  | lit l => cases l <;> simp [Rows.uptoBulk]
  | nil => simp [Rows.uptoBulk]
  | ptr d => simp [Rows.uptoBulk]
  | slice elems spare => simp [Rows.uptoBulk]
  | agg parts => simp [Rows.uptoBulk]
  | iface t d => simp [Rows.uptoBulk]
  | map entries => simp [Rows.uptoBulk]
  | held h => simp [Rows.uptoBulk]
theorem bulk_length {H : Type} (l : List (DataW H)) : l.length ≤ Rows.uptoBulkAll l := by
  induction l with
  | nil => simp [Rows.uptoBulkAll]
  | cons x r ih => have := bulk_one x; simp only [Rows.uptoBulkAll, List.length_cons]; omega
theorem bulk_slice {H : Type} (elems spare : List (DataW H)) : Rows.uptoBulkAll elems + 1 ≤ Rows.uptoBulk (.slice elems spare) := by
  simp only [Rows.uptoBulk]
  omega
theorem wf_byte {n : Int} (h : (Lit.int .u8 n).wf = true) : 0 ≤ n ∧ n ≤ 255 := by
  have h1 : (decide (IntKind.u8.min ≤ n) && decide (n ≤ IntKind.u8.max)) = true := h
  rw [Bool.and_eq_true, decide_eq_true_eq, decide_eq_true_eq] at h1
  exact h1
set_option maxRecDepth 100000 in
/-- '[]byte' that came in. -/
theorem opened_bytes {H : Type} {enc : TypeId × Value → H} {W : World} {base : Nat} {v : Value} {d : DataW H} {ps : List MemPlace} (hv : Value.okWide Tryd.prog W .any base 23 v) (h : DataW.Trod enc Tryd.prog W 0 (fun _ => true) true 23 v d ps) :
    ∃ A n c xs, v = .slice A n c ∧ n ≤ c ∧ ReadsInt W .u8 A n xs ∧ (∀ i, 0 ≤ xs.getD i 0 ∧ xs.getD i 0 ≤ 255) ∧ n + 1 ≤ Rows.uptoBulk d ∧ ∀ x ∈ ps, x.block < W.heap.size := by
  obtain ⟨a, len, cap, rfl⟩ := okWide_slice Tryd.underlying23 hv
  have lt : ∀ x ∈ ps, x.block < W.heap.size := by obtain ⟨m, hm⟩ := h; exact DataW.trod_lt m _ _ _ hm
  obtain ⟨fuel, hf⟩ := h
  rcases open_ints Tryd.underlying23 Tryd.underlying5 cellsByte hf with ⟨hcs, _⟩ | ⟨x, l, c, zs, hcs, _, hl, hm, hz, hx, hcell, hwz⟩
  · simp [Value.cells] at hcs
    obtain ⟨rfl, rfl, rfl⟩ := hcs
    exact ⟨none, 0, 0, [], rfl, Nat.le_refl _, ⟨rfl, by omega, fun h => absurd h (by omega)⟩, fun i => by simp, bulk_one _, lt⟩
  · simp [Value.cells] at hcs
    obtain ⟨rfl, rfl, rfl⟩ := hcs
    simp only [if_true] at hz
    obtain ⟨hd, -⟩ := Prod.mk.inj hx
    have hb : len + 1 ≤ Rows.uptoBulk d := by
      rw [hd]
      have h1 := bulk_slice (H := H) (lits .u8 (zs.take len)) (lits .u8 (zs.drop len))
      have h2 := bulk_length (H := H) (lits .u8 (zs.take len))
      have h3 : (lits (H := H) .u8 (zs.take len)).length = len := by simp [lits]; omega
      omega
    have hg : ∀ i, i < len → (zs.take len).getD i 0 = zs.getD i 0 := fun i hi => by simp [List.getD_eq_getElem?_getD, hi]
    refine ⟨some x, len, cap, zs.take len, rfl, hl, ⟨by rw [List.length_take]; omega, by simp only [maxLen] at hm; omega, fun _ => ⟨x, rfl, fun j hj => ?_⟩⟩, fun i => ?_, hb, lt⟩
    · rw [hg j hj]
      exact hcell j (by omega)
    · by_cases hi : i < (zs.take len).length
      · have hm' := List.getElem_mem hi
        have hw := wf_byte (hwz _ (List.mem_of_mem_take hm'))
        rw [List.getD_eq_getElem?_getD, List.getElem?_eq_getElem hi]
        exact hw
      · rw [List.getD_eq_getElem?_getD, List.getElem?_eq_none (by omega)]
        simp

theorem bulk_row {H : Type} (A : Option Addr) (L : Nat) (zs : List Int) (h : L ≤ zs.length) (h0 : A = none → L = 0) : L + 1 ≤ Rows.uptoBulk (H := H) (Deep.intRow .u8 A L zs) := by
  cases A with
  | none => rw [h0 rfl]; exact bulk_one _
  | some a =>
    have h1 := bulk_slice (H := H) (lits .u8 (zs.take L)) (lits .u8 (zs.drop L))
    have h2 := bulk_length (H := H) (lits .u8 (zs.take L))
    have h3 : (lits (H := H) .u8 (zs.take L)).length = L := by simp [lits]; omega
    show L + 1 ≤ Rows.uptoBulk (.slice (lits .u8 (zs.take L)) (lits .u8 (zs.drop L)))
    omega
theorem bulk_rows {H : Type} (n : Nat) (A : Nat → Option Addr) (L : Nat → Nat) (Z : Nat → List Int) (h : ∀ r, r < n → L r ≤ (Z r).length ∧ (A r = none → L r = 0)) :
    ((List.range n).map fun r => (Z r).take (L r)).flatten.length + n ≤ Rows.uptoBulkAll ((List.range n).map fun r => Deep.intRow (H := H) .u8 (A r) (L r) (Z r)) := by
  induction n with
  | zero => simp [Rows.uptoBulkAll]
  | succ n ih =>
    have ih := ih fun r hr => h r (by omega)
    have h1 := bulk_row (H := H) (A n) (L n) (Z n) (h n (by omega)).1 (h n (by omega)).2
    have happ : ∀ l r : List (DataW H), Rows.uptoBulkAll (l ++ r) = Rows.uptoBulkAll l + Rows.uptoBulkAll r := fun l r => by
      induction l with
      | nil => simp [Rows.uptoBulkAll]
      | cons x l ih => simp only [List.cons_append, Rows.uptoBulkAll, ih]; omega
    rw [List.range_succ, List.map_append, List.map_append, List.flatten_append, List.length_append, happ]
    simp only [List.map_cons, List.map_nil, List.flatten_cons, List.flatten_nil, List.append_nil, Rows.uptoBulkAll, List.length_take]
    have := (h n (by omega)).1
    omega
set_option maxRecDepth 100000 in
/-- '[][]byte' that came in. -/
theorem opened_rows {H : Type} {enc : TypeId × Value → H} {W : World} {base : Nat} {v : Value} {d : DataW H} {ps : List MemPlace} (hv : Value.okWide Tryd.prog W .any base 22 v) (h : DataW.Trod enc Tryd.prog W 0 (fun _ => true) true 22 v d ps) (hd : Rows.uptoBulk d ≤ 1048576) :
    ∃ A n c ls, v = .slice A n c ∧ n ≤ c ∧ RowsAt W A n ls ∧ (∀ l ∈ ls, ∀ i, 0 ≤ l.getD i 0 ∧ l.getD i 0 ≤ 255) ∧ ls.flatten.length ≤ 1048576 ∧ ∀ x ∈ ps, x.block < W.heap.size := by
  obtain ⟨a, len, cap, rfl⟩ := okWide_slice Tryd.underlying22 hv
  have lt : ∀ x ∈ ps, x.block < W.heap.size := by obtain ⟨m, hm⟩ := h; exact DataW.trod_lt m _ _ _ hm
  obtain ⟨fuel, hf⟩ := h
  rcases Deep.open_int_rows Tryd.underlying22 Tryd.underlying23 Tryd.underlying5 cellsBytes cellsByte hf with ⟨hcs, _⟩ | ⟨x, l, c, A, L, C, Z, hcs, _, hl, hm, hx, hrow⟩
  · simp [Value.cells] at hcs
    obtain ⟨rfl, rfl, rfl⟩ := hcs
    exact ⟨none, 0, 0, [], rfl, Nat.le_refl _, rowsAt_nil W, (fun l hl => by cases hl), Nat.zero_le _, lt⟩
  · simp [Value.cells] at hcs
    obtain ⟨rfl, rfl, rfl⟩ := hcs
    obtain ⟨hd', -⟩ := Prod.mk.inj hx
    have hLZ : ∀ r, r < len → L r ≤ (Z r).length ∧ (A r = none → L r = 0) := fun r hr => by
      obtain ⟨-, h2, -, h4, -, h6, -⟩ := hrow r (by omega)
      exact ⟨by omega, fun e => by have := h6 e; omega⟩
    have hb := bulk_rows (H := H) len A L Z hLZ
    rw [hd'] at hd
    have h1 := bulk_slice (H := H) ((List.range len).map fun r => Deep.intRow .u8 (A r) (L r) (Z r)) ((List.range (cap - len)).map fun j => Deep.intRow .u8 (A (len + j)) (L (len + j)) (Z (len + j)))
    refine ⟨some x, len, cap, (List.range len).map fun r => (Z r).take (L r), rfl, hl, ⟨by simp, by omega, fun _ => ⟨x, rfl, fun j hj => ?_⟩⟩, ?_, by omega, lt⟩
    · obtain ⟨r1, r2, r3, r4, r5, r6, r7⟩ := hrow j (by omega)
      have hg : ((List.range len).map fun r => (Z r).take (L r)).getD j [] = (Z j).take (L j) := by simp [List.getD_eq_getElem?_getD, hj]
      have hlen : ((Z j).take (L j)).length = L j := by rw [List.length_take]; omega
      rw [hg, hlen]
      refine ⟨A j, C j, r1, r2, hlen, by simp only [maxLen] at r3; omega, fun hp => ?_⟩
      cases hA : A j with
      | none => have := r6 hA; omega
      | some a' =>
        refine ⟨a', rfl, fun i hi => ?_⟩
        rw [(r7 a' hA).2 i (by omega)]
        simp [List.getD_eq_getElem?_getD, hi]
    · intro l hl i
      obtain ⟨r, hr, rfl⟩ := List.mem_map.1 hl
      have hr := List.mem_range.1 hr
      obtain ⟨-, -, -, -, r5, -, -⟩ := hrow r (by omega)
      by_cases hi : i < ((Z r).take (L r)).length
      · have hm' := List.getElem_mem hi
        have hw := wf_byte (r5 _ (List.mem_of_mem_take hm'))
        rw [List.getD_eq_getElem?_getD, List.getElem?_eq_getElem hi]
        exact hw
      · rw [List.getD_eq_getElem?_getD, List.getElem?_eq_none (by omega)]
        simp
end Go.Proofs.YtcjplgcnjfinoaaDoor

namespace Go.Proofs.YtcjplgcnjfinoaaDoor
open Go.ChangeShapes Go.WideShapes Go.ChangeAt Go.RowKit

theorem typSpans : (Tryd.prog.globals[3]?).map (·.type) = some 173 := by kernel_rfl
theorem typNeeds : (Tryd.prog.globals[2]?).map (·.type) = some 170 := by kernel_rfl
theorem typMasks : (Tryd.prog.globals[1]?).map (·.type) = some 166 := by kernel_rfl
theorem typBad : (Tryd.prog.globals[0]?).map (·.type) = some 136 := by kernel_rfl
theorem namSpans : Tryd.prog.globalNamed "galley/octet.spans" = some 3 := by kernel_rfl
theorem namNeeds : Tryd.prog.globalNamed "galley/octet.needs" = some 2 := by kernel_rfl
theorem namMasks : Tryd.prog.globalNamed "galley/octet.masks" = some 1 := by kernel_rfl
theorem namBad : Tryd.prog.globalNamed "galley/step.bad" = some 0 := by kernel_rfl
theorem undInt : Tryd.prog.underlying 3 = some (.int .i64) := by kernel_rfl
theorem undClass : Tryd.prog.underlying 168 = some (.int .i64) := by kernel_rfl
theorem undRune : Tryd.prog.underlying 21 = some (.int .i32) := by kernel_rfl
theorem undBool : Tryd.prog.underlying 4 = some .bool := by kernel_rfl
theorem cellsInt : Tryd.prog.cellsOf 3 = 1 := by kernel_rfl
theorem cellsClass : Tryd.prog.cellsOf 168 = 1 := by kernel_rfl
theorem cellsRune : Tryd.prog.cellsOf 21 = 1 := by kernel_rfl
theorem cellsBool : Tryd.prog.cellsOf 4 = 1 := by kernel_rfl
theorem cellsSpan : Tryd.prog.cellsOf 172 = 3 := by kernel_rfl
theorem cellsStep : Tryd.prog.cellsOf 136 = 3 := by kernel_rfl
theorem cellsSpans : Tryd.prog.cellsOf 173 = 21 := by kernel_rfl
theorem cellsNeeds : Tryd.prog.cellsOf 170 = 7 := by kernel_rfl
theorem cellsMasks : Tryd.prog.cellsOf 166 = 5 := by kernel_rfl
theorem undSpans : Tryd.prog.underlying 173 = some (.array 7 172) := by kernel_rfl
theorem undNeeds : Tryd.prog.underlying 170 = some (.array 7 3) := by kernel_rfl
theorem undMasks : Tryd.prog.underlying 166 = some (.array 5 5) := by kernel_rfl

set_option maxRecDepth 100000 in
theorem cells_span {H : Type} {enc : TypeId × Value → H} {w : World} {base : Nat} {sp : Nat → Bool} {held : Bool} {fuel : Nat} {cs : List Value} {a b c : Int} {p : List MemPlace}
    (h : DataW.trod enc Tryd.prog w base sp held fuel 172 cs = some (.agg [.lit (.int .i64 a), .lit (.int .i64 b), .lit (.int .i64 c)], p)) : cs = [.int .i64 a, .int .i64 b, .int .i64 c] := by
  obtain ⟨xs, n, -, hx, hl, hlen, hf⟩ := DataW.trod_struct Tryd.underlying172 h
  rw [cellsSpan] at hl
  match cs, hl with
  | [v0, v1, v2], _ =>
    match xs, hlen with
    | [y0, y1, y2], _ =>
      have h0 : DataW.trod enc Tryd.prog w base sp held n 3 (([v0, v1, v2].drop 0).take (Tryd.prog.cellsOf 3)) = some y0 := hf 0 _ rfl
      have h1 : DataW.trod enc Tryd.prog w base sp held n 3 (([v0, v1, v2].drop 1).take (Tryd.prog.cellsOf 3)) = some y1 := hf 1 _ rfl
      have h2 : DataW.trod enc Tryd.prog w base sp held n 168 (([v0, v1, v2].drop 2).take (Tryd.prog.cellsOf 168)) = some y2 := hf 2 _ rfl
      rw [cellsInt] at h0 h1
      rw [cellsClass] at h2
      obtain ⟨z0, e0, f0, -⟩ := DataW.trod_int undInt h0
      obtain ⟨z1, e1, f1, -⟩ := DataW.trod_int undInt h1
      obtain ⟨z2, e2, f2, -⟩ := DataW.trod_int undClass h2
      simp at e0 e1 e2
      simp [f0, f1, f2] at hx
      rw [e0, e1, e2, hx.1.1, hx.1.2.1, hx.1.2.2]
set_option maxRecDepth 100000 in
theorem cells_step {H : Type} {enc : TypeId × Value → H} {w : World} {base : Nat} {sp : Nat → Bool} {held : Bool} {fuel : Nat} {cs : List Value} {a b : Int} {c : Bool} {p : List MemPlace}
    (h : DataW.trod enc Tryd.prog w base sp held fuel 136 cs = some (.agg [.lit (.int .i32 a), .lit (.int .i64 b), .lit (.bool c)], p)) : cs = [.int .i32 a, .int .i64 b, .bool c] := by
  obtain ⟨xs, n, -, hx, hl, hlen, hf⟩ := DataW.trod_struct Tryd.underlying136 h
  rw [cellsStep] at hl
  match cs, hl with
  | [v0, v1, v2], _ =>
    match xs, hlen with
    | [y0, y1, y2], _ =>
      have h0 : DataW.trod enc Tryd.prog w base sp held n 21 (([v0, v1, v2].drop 0).take (Tryd.prog.cellsOf 21)) = some y0 := hf 0 _ rfl
      have h1 : DataW.trod enc Tryd.prog w base sp held n 3 (([v0, v1, v2].drop 1).take (Tryd.prog.cellsOf 3)) = some y1 := hf 1 _ rfl
      have h2 : DataW.trod enc Tryd.prog w base sp held n 4 (([v0, v1, v2].drop 2).take (Tryd.prog.cellsOf 4)) = some y2 := hf 2 _ rfl
      rw [cellsRune] at h0
      rw [cellsInt] at h1
      rw [cellsBool] at h2
      obtain ⟨z0, e0, f0, -⟩ := DataW.trod_int undRune h0
      obtain ⟨z1, e1, f1, -⟩ := DataW.trod_int undInt h1
      obtain ⟨z2, e2, f2⟩ := DataW.trod_bool undBool h2
      simp at e0 e1 e2
      simp [f0, f1, f2] at hx
      rw [e0, e1, e2, hx.1.1, hx.1.2.1, hx.1.2.2]
theorem cut3 (cs : List Value) (n : Nat) : cs.drop n = (cs.drop n).take 3 ++ cs.drop (n + 3) := by
  rw [← List.drop_drop, List.take_append_drop]
set_option maxRecDepth 100000 in
theorem cells_spans {H : Type} {enc : TypeId × Value → H} {w : World} {base : Nat} {sp : Nat → Bool} {held : Bool} {fuel : Nat} {cs : List Value} {p : List MemPlace}
    (h : DataW.trod enc Tryd.prog w base sp held fuel 173 cs = some (Rows.laid_galley_octet_spans, p)) : cs = spansL.map (Value.int .i64) := by
  cases fuel with
  | zero => simp [DataW.trod] at h
  | succ fuel =>
    simp only [DataW.trod, undSpans, cellsSpan, cellsSpans] at h
    split at h
    · rename_i hl
      obtain ⟨xs, hm, hx⟩ := Option.map_eq_some_iff.1 h
      have hxs := congrArg Prod.fst hx
      have hxl : xs.length = 7 := by simpa using Lib.mapM_length hm
      match xs, hxl with
      | [y0, y1, y2, y3, y4, y5, y6], _ =>
        simp only [Rows.laid_galley_octet_spans, List.map_cons, List.map_nil, DataW.agg.injEq, List.cons.injEq] at hxs
        obtain ⟨g0, g1, g2, g3, g4, g5, g6, -⟩ := hxs
        have k : ∀ (i : Nat) (y : DataW H × List MemPlace), i < 7 → [y0, y1, y2, y3, y4, y5, y6][i]? = some y → DataW.trod enc Tryd.prog w base sp held fuel 172 ((cs.drop (i * 3)).take 3) = some y := fun i y hi hy => by
          obtain ⟨b, hb, hf⟩ := Lib.mapM_at hm i i (by simp [hi])
          rw [hb] at hy
          rw [← hy]
          exact hf
        have k0 := k 0 y0 (by omega) rfl
        have k1 := k 1 y1 (by omega) rfl
        have k2 := k 2 y2 (by omega) rfl
        have k3 := k 3 y3 (by omega) rfl
        have k4 := k 4 y4 (by omega) rfl
        have k5 := k 5 y5 (by omega) rfl
        have k6 := k 6 y6 (by omega) rfl
        obtain ⟨d0, q0⟩ := y0
        obtain ⟨d1, q1⟩ := y1
        obtain ⟨d2, q2⟩ := y2
        obtain ⟨d3, q3⟩ := y3
        obtain ⟨d4, q4⟩ := y4
        obtain ⟨d5, q5⟩ := y5
        obtain ⟨d6, q6⟩ := y6
        dsimp only at g0 g1 g2 g3 g4 g5 g6
        subst g0 g1 g2 g3 g4 g5 g6
        have k0 := cells_span k0
        have k1 := cells_span k1
        have k2 := cells_span k2
        have k3 := cells_span k3
        have k4 := cells_span k4
        have k5 := cells_span k5
        have k6 := cells_span k6
        have e21 : cs.drop 21 = [] := List.drop_eq_nil_of_le (by omega)
        have e : cs = cs.drop 0 := rfl
        simp only [Nat.zero_mul, Nat.one_mul, Nat.reduceMul] at k0 k1 k2 k3 k4 k5 k6
        rw [e, cut3 cs 0, cut3 cs (0 + 3), cut3 cs (0 + 3 + 3), cut3 cs (0 + 3 + 3 + 3), cut3 cs (0 + 3 + 3 + 3 + 3), cut3 cs (0 + 3 + 3 + 3 + 3 + 3), cut3 cs (0 + 3 + 3 + 3 + 3 + 3 + 3)]
        simp only [Nat.zero_add, Nat.reduceAdd]
        rw [k0, k1, k2, k3, k4, k5, k6, e21]
        rfl
    · cases h
theorem row_of_var {W : World} {name : String} {g : Nat} {cs : Array Value} {vs : List Value} (hg : Tryd.prog.globalNamed name = some g) (h : W.var? Tryd.prog name = some cs) (e : cs.toList = vs) : RowAt W g vs := by
  intro j v hv
  rw [World.var?_cell hg h j, ← hv, ← e, Array.getElem?_toList]
/-- The four tables, out of a row's list. -/
theorem env_of_laid {W : World} (h : laidMetH Tryd.prog [("galley/octet.spans", Rows.laid_galley_octet_spans), ("galley/octet.needs", Rows.laid_galley_octet_needs), ("galley/octet.masks", Rows.laid_galley_octet_masks), ("galley/step.bad", Rows.laid_galley_step_bad)] W) : Env W := by
  have h : laidMet Tryd.prog [("galley/octet.spans", Rows.laid_galley_octet_spans), ("galley/octet.needs", Rows.laid_galley_octet_needs), ("galley/octet.masks", Rows.laid_galley_octet_masks), ("galley/step.bad", Rows.laid_galley_step_bad)] W := h
  obtain ⟨ps, ⟨g1, t1, c1, f1, p1, q1, hg1, ht1, hv1, hd1, ⟨g2, t2, c2, f2, p2, q2, hg2, ht2, hv2, hd2, ⟨g3, t3, c3, f3, p3, q3, hg3, ht3, hv3, hd3, ⟨g4, t4, c4, f4, p4, q4, hg4, ht4, hv4, hd4, -, -⟩, -⟩, -⟩, -⟩, -⟩ := h
  obtain rfl := Option.some.inj (namSpans.symm.trans hg1)
  obtain rfl := Option.some.inj (namNeeds.symm.trans hg2)
  obtain rfl := Option.some.inj (namMasks.symm.trans hg3)
  obtain rfl := Option.some.inj (namBad.symm.trans hg4)
  obtain rfl := Option.some.inj (typSpans.symm.trans ht1)
  obtain rfl := Option.some.inj (typNeeds.symm.trans ht2)
  obtain rfl := Option.some.inj (typMasks.symm.trans ht3)
  obtain rfl := Option.some.inj (typBad.symm.trans ht4)
  exact ⟨row_of_var namBad hv4 (cells_step hd4), row_of_var namMasks hv3 (Lib.cells_of_tab (zs := [0, 127, 31, 15, 7]) undMasks Tryd.underlying5 cellsByte cellsMasks hd3), row_of_var namNeeds hv2 (Lib.cells_of_tab (zs := [0, 1, 0, 2, 3, 4, 0]) undNeeds undInt cellsInt cellsNeeds hd2), row_of_var namSpans hv1 (cells_spans hd1)⟩
end Go.Proofs.YtcjplgcnjfinoaaDoor
