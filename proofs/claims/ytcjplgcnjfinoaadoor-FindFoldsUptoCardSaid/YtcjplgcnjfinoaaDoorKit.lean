/- Small laws on worlds that the walks of this seat use: an iterator's block, a call that makes memory, and how a world grows. No condition. -/
import Derived.Test.YtcjplgcnjfinoaaDoorWMore
import Derived.Test.YtcjplgcnjfinoaaDoorChecked
import Derived.Lib.Hide
import Derived.WalkSpells
import Derived.WalkLawsBesides
namespace Go.Proofs.YtcjplgcnjfinoaaDoor
open Go.RowKit Go.Proofs.YtcjplgcnjfinoaaDoorW.PrintWords Go.Proofs.YtcjplgcnjfinoaaDoorW.PrintMore

theorem iter_cell (w : World) (s : ByteArray) (p : Nat) (a : Addr) : (w.iter s p).cell? a = w.cell? a := by
  by_cases h : a.block < w.heap.size
  · exact World.cell?_of_block (w := w) (Below.heap_alloc w _ a.block h)
  · have e : w.cell? a = none := by simp [World.cell?, Array.getElem?_eq_none (Nat.le_of_not_lt h)]
    rw [e]
    by_cases h' : a.block = w.heap.size
    · have := World.iter_heap w s p
      simp [World.cell?, h', this]
    · have : (w.iter s p).heap[a.block]? = none := Array.getElem?_eq_none (by simp [World.iter]; omega)
      simp [World.cell?, this]
theorem iter_frozen (w : World) (s : ByteArray) (p : Nat) (a : Addr) : (w.iter s p).frozen? a = w.frozen? a := by
  by_cases h : a.block < w.heap.size
  · exact World.frozen?_of_block (w := w) (Below.heap_alloc w _ a.block h)
  · have e : w.frozen? a = false := by simp [World.frozen?, Array.getElem?_eq_none (Nat.le_of_not_lt h)]
    rw [e]
    by_cases h' : a.block = w.heap.size
    · have := World.iter_heap w s p
      simp [World.frozen?, h', this]
    · have : (w.iter s p).heap[a.block]? = none := Array.getElem?_eq_none (by simp [World.iter]; omega)
      simp [World.frozen?, this]
theorem iter_size (w : World) (s : ByteArray) (p : Nat) : (w.iter s p).heap.size = w.heap.size + 1 := by simp [World.iter]
theorem Below.iter {B : Nat} {a w : World} (h : Below B a w) (hB : B ≤ w.heap.size) (s : ByteArray) (p : Nat) : Below B a (w.iter s p) := h.alloc hB _
theorem bl_alloc {w W : World} (h : Below w.heap.size w W) (o : Obj) : Below w.heap.size w (W.alloc o) := h.alloc h.size o
theorem bl_iter {w W : World} (h : Below w.heap.size w W) (s : ByteArray) (p : Nat) : Below w.heap.size w (W.iter s p) := h.alloc h.size _
theorem bl_drew {w W : World} (h : Below w.heap.size w W) : Below w.heap.size w W.drew := h.drew
theorem bl_drewN {w W : World} (h : Below w.heap.size w W) (n : Nat) : Below w.heap.size w (W.drewN n) := pw_below_drewN h n
theorem bl_set {w W : World} (h : Below w.heap.size w W) {p : Addr} (hp : w.heap.size ≤ p.block) (u : Value) : Below w.heap.size w (W.setCell p u) := h.setCell hp u
theorem bl_then {w w1 w2 : World} (h : Below w.heap.size w w1) (k : Below w1.heap.size w1 w2) : Below w.heap.size w w2 := h.trans (k.mono h.size)
/-- Behind a call that makes memory: all old cells and marks read as before. -/
theorem bcell {W w1 : World} (hb : Below W.heap.size W w1) : (∀ b o, b < W.heap.size → w1.cell? ⟨b, o, none⟩ = W.cell? ⟨b, o, none⟩) ∧ (∀ b o, b < W.heap.size → w1.frozen? ⟨b, o, none⟩ = W.frozen? ⟨b, o, none⟩) :=
  ⟨fun b o h => hb.cell (p := ⟨b, o, none⟩) h, fun b o h => hb.frozen (p := ⟨b, o, none⟩) h⟩
theorem add0 (ad : Addr) : ad.add 0 = ad := by simp [Addr.add]
theorem cell_lt {w : World} {a : Addr} {v : Value} (h : w.cell? a = some v) : a.block < w.heap.size := World.block_lt_of_cell? w a h

/-- The cells of a block, from its head on. -/
def RowAt (w : World) (g : Nat) (cs : List Value) : Prop := ∀ j v, cs[j]? = some v → w.cell? ⟨g, j, none⟩ = some v
theorem RowAt.below {w w' : World} {g : Nat} {cs : List Value} (h : RowAt w g cs) (hb : Below w.heap.size w w') : RowAt w' g cs := fun j v hv => pw_cell_below hb (h j v hv)
theorem run_loadVar_cells {P : Program} (w : World) (g off : Nat) (ty : TypeId) (cs : List Value) (d : TypeDesc) (hg : ∀ j v, cs[j]? = some v → w.cell? ⟨g, off + j, none⟩ = some v)
    (hu : P.underlying ty = some d) (hd : (match d with | .struct _ | .array _ _ => true | _ => false) = true) (hi : (P.info? ty).map (·.size) = some cs.length) :
    (loadVar ty ⟨g, off, none⟩).run P w = .ok (.agg cs.toArray) w := by
  have hl : (loadCells ⟨g, off, none⟩ cs.length).run P w = .ok cs.toArray w :=
    run_loadCells_list (P := P) w ⟨g, off, none⟩ cs (fun j v hv => by
      have hadd : (⟨g, off, none⟩ : Addr).add j = ⟨g, off + j, none⟩ := by unfold Addr.add; split <;> simp_all
      rw [hadd]
      exact hg j v hv)
  cases hq : P.info? ty with
  | none => simp [hq] at hi
  | some i =>
    have hs : i.size = cs.length := by simpa [hq] using hi
    have hagg : (isAgg ty).run P w = .ok true w := by
      unfold isAgg
      rw [Sem.run_bind, run_underlying hu w]
      cases d <;> simp_all
    simp [loadVar, Sem.run_bind, hagg, sizeOf, typeInfo, hq, hs, hl]
theorem wpList_load_cells {P : Program} {ops : Array Oper} {rest : List Oper} {o : Oper} {a : Act} {w : World} {Q : Exit → Act → World → Prop} (hgd : o.guard = none) (ty : TypeId) (x : Operand) (ho : o.op = .load ty x)
    (g off : Nat) (hx : a.eval x = .pointer (some ⟨g, off, none⟩)) (cs : List Value) (d : TypeDesc) (hg : ∀ j v, cs[j]? = some v → w.cell? ⟨g, off + j, none⟩ = some v)
    (hu : P.underlying ty = some d) (hd : (match d with | .struct _ | .array _ _ => true | _ => false) = true) (hi : (P.info? ty).map (·.size) = some cs.length)
    (h : wpList P ops Q rest (a.put o.dst (.agg cs.toArray)) w) : wpList P ops Q (o :: rest) a w :=
  wpList_plain hgd fun _ hK => by
    unfold Oper.wp execOp
    simp only [ho, hx, Instr.loadAt, Instr.sureAddr, Sem.run_bind, Sem.run_pure, Result.andThen_ok, run_loadVar_cells w g off ty cs d hg hu hd hi]
    exact hK _ _ h
/-- The package-level variables hold what their text lays. -/
def spansL : List Int := [0, 127, 1, 128, 191, 2, 192, 193, 6, 194, 223, 3, 224, 239, 4, 240, 244, 5, 245, 255, 6]
structure Env (w : World) : Prop where
  bad : RowAt w 0 [.int .i32 65533, .int .i64 1, .bool false]
  masks : RowAt w 1 [.int .u8 0, .int .u8 127, .int .u8 31, .int .u8 15, .int .u8 7]
  needs : RowAt w 2 [.int .i64 0, .int .i64 1, .int .i64 0, .int .i64 2, .int .i64 3, .int .i64 4, .int .i64 0]
  spans : RowAt w 3 (spansL.map (Value.int .i64))
theorem Env.below {w w' : World} (h : Env w) (hb : Below w.heap.size w w') : Env w' := ⟨h.bad.below hb, h.masks.below hb, h.needs.below hb, h.spans.below hb⟩
/-- The type byte's row of the table. -/
theorem infoByte : (Tryd.prog.info? 5).map (fun i => (i.zero, i.size, i.bytes)) = some (some (.int .u8 0), 1, 1) := by kernel_rfl
theorem infoByte_get : ∃ i, Tryd.prog.info? 5 = some i ∧ i.size = 1 := by
  obtain ⟨i, hi, hz⟩ := Option.map_eq_some_iff.1 infoByte
  simp only [Prod.mk.injEq] at hz
  exact ⟨i, hi, hz.2.1⟩
/-- 'b[lo:hi]' of bytes that are read. -/
theorem cut_bytes (A : Option Addr) (n c : Nat) (lo hi : Int) (h0 : 0 ≤ lo) (h1 : lo ≤ hi) (h2 : hi ≤ n) (hc : n ≤ c) :
    ∃ A' : Option Addr, (∀ W : World, (Instr.slice 23 (.slice A n c) (some (.int .i64 lo)) (some (.int .i64 hi)) none).run Tryd.prog W = .ok (.slice A' (hi.toNat - lo.toNat) (c - lo.toNat)) W) ∧
      ∀ (w : World) (xs : List Int), ReadsInt w .u8 A n xs → ReadsInt w .u8 A' (hi.toNat - lo.toNat) ((xs.take hi.toNat).drop lo.toNat) := by
  obtain ⟨i, hi', hs⟩ := infoByte_get
  refine ⟨_, cut_mid (P := Tryd.prog) 23 5 .i64 .i64 Tryd.underlying23 hi' 1 hs A n c lo hi h0 h1 h2 hc, fun w xs h => ?_⟩
  rw [Nat.mul_one]
  exact (h.take_ hi.toNat (by omega)).drop_ (c := c) lo.toNat (by omega) (by omega)
/-- 'b[:hi]' of bytes that are read. -/
theorem cut_bytes_to (A : Option Addr) (n c : Nat) (hi : Int) (h0 : 0 ≤ hi) (h2 : hi ≤ n) (hc : n ≤ c) :
    (∀ W : World, (Instr.slice 23 (.slice A n c) none (some (.int .i64 hi)) none).run Tryd.prog W = .ok (.slice A hi.toNat c) W) ∧
      ∀ (w : World) (xs : List Int), ReadsInt w .u8 A n xs → ReadsInt w .u8 A hi.toNat (xs.take hi.toNat) := by
  obtain ⟨i, hi', hs⟩ := infoByte_get
  exact ⟨cut_to (P := Tryd.prog) 23 5 .i64 Tryd.underlying23 hi' A n c hi h0 h2 hc, fun w xs h => h.take_ hi.toNat (by omega)⟩
/-- 'b[lo:]' of bytes that are read. -/
theorem cut_bytes_from (A : Option Addr) (n c : Nat) (lo : Int) (h0 : 0 ≤ lo) (h2 : lo ≤ n) (hc : n ≤ c) :
    ∃ A' : Option Addr, (∀ W : World, (Instr.slice 23 (.slice A n c) (some (.int .i64 lo)) none none).run Tryd.prog W = .ok (.slice A' (n - lo.toNat) (c - lo.toNat)) W) ∧
      ∀ (w : World) (xs : List Int), ReadsInt w .u8 A n xs → ReadsInt w .u8 A' (n - lo.toNat) (xs.drop lo.toNat) := by
  obtain ⟨i, hi', hs⟩ := infoByte_get
  refine ⟨_, cut_from (P := Tryd.prog) 23 5 .i64 Tryd.underlying23 hi' 1 hs A n c lo h0 h2, fun w xs h => ?_⟩
  rw [Nat.mul_one]
  exact h.drop_ (c := c) lo.toNat (by omega) (by omega)
/-- 'string(b)' of bytes that are read. -/
theorem bytes_string {w : World} {A : Option Addr} {n c : Nat} {xs : List Int} (h : ReadsInt w .u8 A n xs) : (convert 23 9 (.slice A n c)).run Tryd.prog w = .ok (.string (strOfNums xs)) w :=
  string_of_reads Tryd.underlying23 Tryd.underlying5 Tryd.underlying9 h
/-- '[]byte(s)'. -/
theorem string_bytes (s : ByteArray) (W : World) : (convert 9 23 (.string s)).run Tryd.prog W = .ok (.slice (some ⟨W.heap.size, 0, none⟩) s.size (grownCap W s.size 0 5)) (Lib.bytesWorld W 5 s) :=
  print_bytes 9 23 5 Tryd.underlying9 Tryd.underlying23 Tryd.underlying5 s W
end Go.Proofs.YtcjplgcnjfinoaaDoor
