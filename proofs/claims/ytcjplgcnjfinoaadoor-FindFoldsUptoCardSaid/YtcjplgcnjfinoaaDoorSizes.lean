/- Contracts of weld.units and weld.Sizes: the sizes of bytes alone, exact. Conditions: step.bad holds what its text lays. -/
import Derived.Test.YtcjplgcnjfinoaaDoorIter
namespace Go.Proofs.YtcjplgcnjfinoaaDoor
open Go.RowKit Go.Shelf Go.Proofs.YtcjplgcnjfinoaaDoorW.PrintWords Go.Proofs.YtcjplgcnjfinoaaDoorW.PrintMore
attribute [local go_sem] Oper.semAt_some

def unitsOf (r : Int) : Int := if 65535 < r then 2 else 1
theorem units_any (r : Int) (w : World) : Calls Tryd.prog 89 #[.int .i32 r] w fun e w' => e = .returned (.int .i64 (unitsOf r)) ∧ w = w' := by
  unfold unitsOf
  by_cases h : 65535 < r
  · rw [if_pos h]
    go_enter Tryd.func89, Tryd.ntmps89
    go_wp2
    go_ret
    exact ⟨rfl, rfl⟩
  · rw [if_neg h]
    go_enter Tryd.func89, Tryd.ntmps89
    go_wp2
    go_ret
    exact ⟨rfl, rfl⟩

/-- What is counted of steps: units, line ends, the last rune. -/
def cntUnits : List StepT → Int := List.foldl (fun u x => u + unitsOf x.2.1) 0
def lastOf (l : List StepT) : Int := (l.getLast?.map (·.2.1)).getD 0
def isEnd (last r : Int) : Bool := r == 13 || (r == 10 && last != 13)
def cntEnds (l : List StepT) : Int := (l.foldl (fun (p : Int × Int) x => (p.1 + (if isEnd p.2 x.2.1 then 1 else 0), x.2.1)) (0, 0)).1
theorem cntFold_last (l : List StepT) : ∀ p : Int × Int, (l.foldl (fun (p : Int × Int) x => (p.1 + (if isEnd p.2 x.2.1 then 1 else 0), x.2.1)) p).2 = (l.getLast?.map (·.2.1)).getD p.2 := by
  induction l with
  | nil => intro p; rfl
  | cons x l ih =>
    intro p
    rw [List.foldl_cons, ih]
    cases l with
    | nil => rfl
    | cons y l => simp [List.getLast?_cons]
theorem cntUnits_snoc (l : List StepT) (x : StepT) : cntUnits (l ++ [x]) = cntUnits l + unitsOf x.2.1 := by simp [cntUnits]
theorem lastOf_snoc (l : List StepT) (x : StepT) : lastOf (l ++ [x]) = x.2.1 := by simp [lastOf]
theorem cntEnds_snoc (l : List StepT) (x : StepT) : cntEnds (l ++ [x]) = cntEnds l + (if isEnd (lastOf l) x.2.1 then 1 else 0) := by
  unfold cntEnds lastOf
  rw [List.foldl_append, List.foldl_cons, List.foldl_nil, cntFold_last]
theorem unitsOf_range (r : Int) : 1 ≤ unitsOf r ∧ unitsOf r ≤ 2 := by unfold unitsOf; split <;> omega
theorem cntUnits_fold (l : List StepT) : ∀ u : Int, u ≤ l.foldl (fun u x => u + unitsOf x.2.1) u ∧ l.foldl (fun u x => u + unitsOf x.2.1) u ≤ u + 2 * l.length := by
  induction l with
  | nil => intro u; simp
  | cons x l ih =>
    intro u
    have h := ih (u + unitsOf x.2.1)
    have h1 := unitsOf_range x.2.1
    rw [List.foldl_cons, List.length_cons]
    omega
theorem cntEnds_fold (l : List StepT) : ∀ p : Int × Int, p.1 ≤ (l.foldl (fun (p : Int × Int) x => (p.1 + (if isEnd p.2 x.2.1 then 1 else 0), x.2.1)) p).1 ∧ (l.foldl (fun (p : Int × Int) x => (p.1 + (if isEnd p.2 x.2.1 then 1 else 0), x.2.1)) p).1 ≤ p.1 + l.length := by
  induction l with
  | nil => intro p; simp
  | cons x l ih =>
    intro p
    have h := ih (p.1 + (if isEnd p.2 x.2.1 then 1 else 0), x.2.1)
    have h2 : (0 : Int) ≤ (if isEnd p.2 x.2.1 then 1 else 0) ∧ (if isEnd p.2 x.2.1 then 1 else 0) ≤ (1 : Int) := by split <;> omega
    rw [List.foldl_cons, List.length_cons]
    simp only at h
    omega
theorem cnt_bounds (l : List StepT) : 0 ≤ cntUnits l ∧ cntUnits l ≤ 2 * l.length ∧ 0 ≤ cntEnds l ∧ cntEnds l ≤ l.length := by
  have h1 := cntUnits_fold l 0
  have h2 := cntEnds_fold l (0, 0)
  unfold cntUnits cntEnds
  simp only at h2
  omega

/-- A block of one's own, whole. -/
def Blk (W : World) (b : Nat) (cs : Array Value) (t : TypeId) : Prop := W.heap[b]? = some (.cells cs t (0, 0))
theorem Blk.cell {W : World} {b : Nat} {cs : Array Value} {t : TypeId} (h : Blk W b cs t) (i : Nat) : W.cell? ⟨b, i, none⟩ = cs[i]? := cell_of_row W b i cs t (0, 0) h
theorem Blk.frozen {W : World} {b : Nat} {cs : Array Value} {t : TypeId} (h : Blk W b cs t) (i : Nat) : W.frozen? ⟨b, i, none⟩ = false := frozen_of_row W b i cs t h
theorem Blk.lt {W : World} {b : Nat} {cs : Array Value} {t : TypeId} (h : Blk W b cs t) : b < W.heap.size := (Array.getElem?_eq_some_iff.1 h).1
theorem Blk.new (W : World) (cs : Array Value) (t : TypeId) : Blk (W.alloc (.cells cs t)) W.heap.size cs t := heap_alloc_new W _
theorem Blk.alloc {W : World} {b : Nat} {cs : Array Value} {t : TypeId} (h : Blk W b cs t) (o : Obj) : Blk (W.alloc o) b cs t := (Below.heap_alloc W o b h.lt).trans h
theorem Blk.below {W W' : World} {b : Nat} {cs : Array Value} {t : TypeId} (h : Blk W b cs t) (hb : Below W.heap.size W W') : Blk W' b cs t := (hb.block b h.lt).trans h
theorem Blk.drew {W : World} {b : Nat} {cs : Array Value} {t : TypeId} (h : Blk W b cs t) : Blk W.drew b cs t := h
theorem Blk.drewN {W : World} {b : Nat} {cs : Array Value} {t : TypeId} (h : Blk W b cs t) (n : Nat) : Blk (W.drewN n) b cs t := h
theorem Blk.set {W : World} {b : Nat} {cs : Array Value} {t : TypeId} (h : Blk W b cs t) (i : Nat) (v : Value) : Blk (W.setCell ⟨b, i, none⟩ v) b (cs.setIfInBounds i v) t := blk_set h i v
theorem Blk.set' {W : World} {b i : Nat} {cs cs' : Array Value} {t : TypeId} {v : Value} (h : Blk W b cs t) (e : cs' = cs.setIfInBounds i v) : Blk (W.setCell ⟨b, i, none⟩ v) b cs' t := e ▸ h.set i v
theorem Blk.other {W : World} {b : Nat} {cs : Array Value} {t : TypeId} (h : Blk W b cs t) {p : Addr} (hp : b ≠ p.block) (v : Value) : Blk (W.setCell p v) b cs t := (Below.heap_setCell W p v b hp).trans h
theorem blk_own {β : Type} (b : Nat) (t : TypeId) (f : β → Array Value) : Own (fun s W => Blk W b (f s) t) := fun s X Y row hs hg hrow => by
  refine (hg.block b (Blk.lt hs) (fun e => ?_)).trans hs
  obtain ⟨o, ho, hc⟩ := hrow b e.symm
  rw [show X.heap[b]? = _ from hs] at ho
  cases ho; cases hc
theorem KeepsOthers.drewN (W : World) (n : Nat) : KeepsOthers W (W.drewN n) := ⟨Nat.le_refl _, fun _ _ h _ => h⟩
theorem box_set {W : World} {b : Nat} {o : Option Obj} (h : W.heap[b]? = o) {p : Addr} (hp : b ≠ p.block) (v : Value) : (W.setCell p v).heap[b]? = o := (Below.heap_setCell W p v b hp).trans h
theorem box_alloc {W : World} {b : Nat} {o : Option Obj} (h : W.heap[b]? = o) (hb : b < W.heap.size) (x : Obj) : (W.alloc x).heap[b]? = o := (Below.heap_alloc W x b hb).trans h
theorem box_drew {W : World} {b : Nat} {o : Option Obj} (h : W.heap[b]? = o) : W.drew.heap[b]? = o := h
theorem box_drewN {W : World} {b : Nat} {o : Option Obj} (h : W.heap[b]? = o) (n : Nat) : (W.drewN n).heap[b]? = o := h
theorem below_at_set {B : Nat} {w W : World} (h : Below B w W) {p : Addr} (hp : B ≤ p.block) (u : Value) : Below B w (W.setCell p u) := h.setCell hp u
theorem below_at_alloc {B : Nat} {w W : World} (h : Below B w W) (hp : B ≤ W.heap.size) (o : Obj) : Below B w (W.alloc o) := h.alloc hp o
theorem keepsOthers_of_below {W W' : World} (h : Below W.heap.size W W') : KeepsOthers W W' := ⟨h.size, fun k _ hk _ => (h.block k (Array.getElem?_eq_some_iff.1 hk).1).trans hk⟩

/-- What the loop of Sizes keeps. -/
def SizesI (w : World) (n : Nat) (s : ByteArray) (pre : List StepT) (W : World) : Prop :=
  (Blk W (w.heap.size + 1) #[.int .i64 n, .int .i64 pre.length, .int .i64 (cntUnits pre), .int .i64 (cntEnds pre)] 127 ∧ Blk W (w.heap.size + 1 + 1) #[.int .i32 (lastOf pre)] 21 ∧
    Blk W w.heap.size #[.int .i64 0, .int .i64 0, .int .i64 0, .int .i64 0] 127 ∧ Blk W (w.heap.size + 1 + 1 + 1) #[.string s] 9) ∧ Below w.heap.size w W
theorem sizesI_own (w : World) (n : Nat) (s : ByteArray) {B : Nat} (hB : w.heap.size ≤ B) : OwnFrom B (SizesI w n s) :=
  OwnFrom.and (Own.from (fun s' X Y row hs hg hr => ⟨blk_own _ _ (fun pre : List StepT => #[.int .i64 n, .int .i64 pre.length, .int .i64 (cntUnits pre), .int .i64 (cntEnds pre)]) s' X Y row hs.1 hg hr, blk_own _ _ (fun pre : List StepT => #[.int .i32 (lastOf pre)]) s' X Y row hs.2.1 hg hr, blk_own _ _ (fun _ : List StepT => #[.int .i64 0, .int .i64 0, .int .i64 0, .int .i64 0]) s' X Y row hs.2.2.1 hg hr, blk_own _ _ (fun _ : List StepT => #[Value.string _]) s' X Y row hs.2.2.2 hg hr⟩) _) (ownFrom_below (Nat.le_refl _) hB)
theorem sizesI_end {w W : World} {n : Nat} {s : ByteArray} {pre : List StepT} {x : StepT} (B : Nat) (h : SizesI w n s pre W) (he : cntEnds (pre ++ [x]) = cntEnds pre + 1) (a : Act) :
    ownPostG B (KpAll w.heap.size [w.heap.size + 1 + 1 + 1]) (SizesI w n s) (fun _ _ _ => False) (pre ++ [x]) W .normal a
      ((((W.setCell ⟨w.heap.size + 1, 1, none⟩ (.int .i64 (pre.length + 1))).setCell ⟨w.heap.size + 1, 2, none⟩ (.int .i64 (cntUnits pre + unitsOf x.2.1))).setCell ⟨w.heap.size + 1, 3, none⟩ (.int .i64 (cntEnds pre + 1))).setCell ⟨w.heap.size + 1 + 1, 0, none⟩ (.int .i32 x.2.1)).drew := by
  obtain ⟨⟨hi1, hi2, hi3, hi5⟩, hi4⟩ := h
  have hk : KeepsOthers W ((((W.setCell ⟨w.heap.size + 1, 1, none⟩ (.int .i64 (pre.length + 1))).setCell ⟨w.heap.size + 1, 2, none⟩ (.int .i64 (cntUnits pre + unitsOf x.2.1))).setCell ⟨w.heap.size + 1, 3, none⟩ (.int .i64 (cntEnds pre + 1))).setCell ⟨w.heap.size + 1 + 1, 0, none⟩ (.int .i32 x.2.1)).drew := ((((KeepsOthers.setCell W _ _).trans (KeepsOthers.setCell _ _ _)).trans (KeepsOthers.setCell _ _ _)).trans (KeepsOthers.setCell _ _ _)).trans (KeepsOthers.drew _)
  refine ⟨hk.from _, ⟨hk.walks, fun b hb => ?_, ?_⟩, ⟨⟨?_, ?_, ?_, ?_⟩, ?_⟩⟩
  · rw [List.mem_singleton.1 hb]
    exact box_set (box_set (box_set (box_set ((rfl : W.heap[w.heap.size + 1 + 1 + 1]? = _)) (by simp <;> omega) _) (by simp <;> omega) _) (by simp <;> omega) _) (by simp <;> omega) _
  · exact (below_at_set (below_at_set (below_at_set (below_at_set (Below.refl _ W) (by simp <;> omega) _) (by simp <;> omega) _) (by simp <;> omega) _) (by simp <;> omega) _).drew
  · rw [cntUnits_snoc, he, List.length_append]
    exact ((((hi1.set 1 _).set 2 _).set 3 _).other (by simp <;> omega) _).drew
  · rw [lastOf_snoc]
    exact ((((hi2.other (by simp <;> omega) _).other (by simp <;> omega) _).other (by simp <;> omega) _).set 0 _).drew
  · exact ((((hi3.other (by simp <;> omega) _).other (by simp <;> omega) _).other (by simp <;> omega) _).other (by simp <;> omega) _).drew
  · exact ((((hi5.other (by simp <;> omega) _).other (by simp <;> omega) _).other (by simp <;> omega) _).other (by simp <;> omega) _).drew
  · exact (below_at_set (below_at_set (below_at_set (below_at_set (hi4) (by simp <;> omega) _) (by simp <;> omega) _) (by simp <;> omega) _) (by simp <;> omega) _).drew
theorem sizesI_none {w W : World} {n : Nat} {s : ByteArray} {pre : List StepT} {x : StepT} (B : Nat) (h : SizesI w n s pre W) (he : cntEnds (pre ++ [x]) = cntEnds pre) (a : Act) :
    ownPostG B (KpAll w.heap.size [w.heap.size + 1 + 1 + 1]) (SizesI w n s) (fun _ _ _ => False) (pre ++ [x]) W .normal a
      (((W.setCell ⟨w.heap.size + 1, 1, none⟩ (.int .i64 (pre.length + 1))).setCell ⟨w.heap.size + 1, 2, none⟩ (.int .i64 (cntUnits pre + unitsOf x.2.1))).setCell ⟨w.heap.size + 1 + 1, 0, none⟩ (.int .i32 x.2.1)).drew := by
  obtain ⟨⟨hi1, hi2, hi3, hi5⟩, hi4⟩ := h
  have hk : KeepsOthers W (((W.setCell ⟨w.heap.size + 1, 1, none⟩ (.int .i64 (pre.length + 1))).setCell ⟨w.heap.size + 1, 2, none⟩ (.int .i64 (cntUnits pre + unitsOf x.2.1))).setCell ⟨w.heap.size + 1 + 1, 0, none⟩ (.int .i32 x.2.1)).drew := (((KeepsOthers.setCell W _ _).trans (KeepsOthers.setCell _ _ _)).trans (KeepsOthers.setCell _ _ _)).trans (KeepsOthers.drew _)
  refine ⟨hk.from _, ⟨hk.walks, fun b hb => ?_, ?_⟩, ⟨⟨?_, ?_, ?_, ?_⟩, ?_⟩⟩
  · rw [List.mem_singleton.1 hb]
    exact box_set (box_set (box_set ((rfl : W.heap[w.heap.size + 1 + 1 + 1]? = _)) (by simp <;> omega) _) (by simp <;> omega) _) (by simp <;> omega) _
  · exact (below_at_set (below_at_set (below_at_set (Below.refl _ W) (by simp <;> omega) _) (by simp <;> omega) _) (by simp <;> omega) _).drew
  · rw [cntUnits_snoc, he, List.length_append]
    exact (((hi1.set 1 _).set 2 _).other (by simp <;> omega) _).drew
  · rw [lastOf_snoc]
    exact (((hi2.other (by simp <;> omega) _).other (by simp <;> omega) _).set 0 _).drew
  · exact (((hi3.other (by simp <;> omega) _).other (by simp <;> omega) _).other (by simp <;> omega) _).drew
  · exact (((hi5.other (by simp <;> omega) _).other (by simp <;> omega) _).other (by simp <;> omega) _).drew
  · exact (below_at_set (below_at_set (below_at_set (hi4) (by simp <;> omega) _) (by simp <;> omega) _) (by simp <;> omega) _).drew

set_option maxRecDepth 100000 in
set_option maxHeartbeats 6000000 in
theorem Sizes_any (A : Option Addr) (n c : Nat) (xs : List Int) (w : World) (he : Env w) (hr : ReadsInt w .u8 A n xs) (hn : n ≤ 140737488351232) :
    Calls Tryd.prog 83 #[.slice A n c] w fun e w' => e = .returned (.agg #[.int .i64 n, .int .i64 (nSteps (strOfNums xs)), .int .i64 (cntUnits (stepsOf (strOfNums xs))), .int .i64 (cntEnds (stepsOf (strOfNums xs)))]) ∧ Below w.heap.size w w' := by
  refine (callsIn_wide (n := 6)).1 ?_
  refine callsIn_of_wp_marks Tryd.func83 rfl trivial ?_ rfl
  simp only [Tryd.ntmps83, List.size_toArray, List.length_cons, List.length_nil, Nat.reduceAdd, Nat.reduceSub, Array.replicate_succ, Array.replicate_zero, List.push_toArray, List.append_toArray, List.nil_append, List.cons_append]
  have hw3 : Below w.heap.size w (((w.alloc (Obj.cells #[Value.int IntKind.i64 0, Value.int IntKind.i64 0, Value.int IntKind.i64 0, Value.int IntKind.i64 0] 127)).alloc (Obj.cells #[Value.int IntKind.i64 ↑n, Value.int IntKind.i64 0, Value.int IntKind.i64 0, Value.int IntKind.i64 0] 127)).alloc (Obj.cells #[Value.int IntKind.i32 0] 21)) := by (repeat (first | (with_reducible exact Below.refl _ _) | (with_reducible assumption) | (with_reducible apply bl_alloc) | (with_reducible apply bl_iter) | (with_reducible apply bl_drew) | (with_reducible apply bl_drewN) | (with_reducible refine bl_set ?_ (by first | assumption | (simp; done) | omega | (simp; omega)) _) | (with_reducible refine bl_then ?_ (by with_reducible assumption))))
  have hB0 := ((Blk.new w #[Value.int IntKind.i64 0, Value.int IntKind.i64 0, Value.int IntKind.i64 0, Value.int IntKind.i64 0] 127).alloc (Obj.cells #[Value.int IntKind.i64 ↑n, Value.int IntKind.i64 0, Value.int IntKind.i64 0, Value.int IntKind.i64 0] 127)).alloc (Obj.cells #[Value.int IntKind.i32 0] 21)
  have hB1 := (Blk.new (w.alloc (Obj.cells #[Value.int IntKind.i64 0, Value.int IntKind.i64 0, Value.int IntKind.i64 0, Value.int IntKind.i64 0] 127)) #[Value.int IntKind.i64 ↑n, Value.int IntKind.i64 0, Value.int IntKind.i64 0, Value.int IntKind.i64 0] 127).alloc (Obj.cells #[Value.int IntKind.i32 0] 21)
  have hB2 := Blk.new ((w.alloc (Obj.cells #[Value.int IntKind.i64 0, Value.int IntKind.i64 0, Value.int IntKind.i64 0, Value.int IntKind.i64 0] 127)).alloc (Obj.cells #[Value.int IntKind.i64 ↑n, Value.int IntKind.i64 0, Value.int IntKind.i64 0, Value.int IntKind.i64 0] 127)) #[Value.int IntKind.i32 0] 21
  have hA := stepAll_any A n c xs _ (hr.below hw3)
  simp only [World.size_alloc] at hB1 hB2 hA
  gi_wp2_with (first | (refine ⟨trivial, ?_⟩; gi_at_call 88; refine (callsIn_wide.2 hA).mono ?_; clear hA; rintro e w' ⟨rfl, rfl⟩))
  have hB3 := (strOfNums_size xs)
  have hlen : xs.length = n := hr.1
  generalize hs0 : strOfNums xs = s at *
  generalize hW3 : (((w.alloc (Obj.cells #[Value.int IntKind.i64 0, Value.int IntKind.i64 0, Value.int IntKind.i64 0, Value.int IntKind.i64 0] 127)).alloc (Obj.cells #[Value.int IntKind.i64 ↑n, Value.int IntKind.i64 0, Value.int IntKind.i64 0, Value.int IntKind.i64 0] 127)).alloc (Obj.cells #[Value.int IntKind.i32 0] 21)) = W3 at *
  have hz3 : W3.heap.size = w.heap.size + 1 + 1 + 1 := by rw [← hW3]; simp
  have hB3s := (Blk.new W3 #[Value.string s] 9).cell 0
  rw [hz3] at hB3s
  have hg : 3 < w.heap.size ∧ 1 < w.heap.size ∧ 2 < w.heap.size ∧ 0 < w.heap.size := ⟨cell_lt (he.spans 0 _ rfl), cell_lt (he.masks 0 _ rfl), cell_lt (he.needs 0 _ rfl), cell_lt (he.bad 0 _ rfl)⟩
  have hw4 := bl_alloc hw3 (Obj.cells #[Value.string s] 9)
  have hz4 : (W3.alloc (Obj.cells #[Value.string s] 9)).heap.size = w.heap.size + 1 + 1 + 1 + 1 := by rw [World.size_alloc, hz3]
  have hB0' := hB0.alloc (Obj.cells #[Value.string s] 9)
  have hB1' := hB1.alloc (Obj.cells #[Value.string s] 9)
  have hB2' := hB2.alloc (Obj.cells #[Value.string s] 9)
  have hB3' := Blk.new W3 #[Value.string s] 9
  rw [hz3] at hB3'
  generalize hW4 : W3.alloc (Obj.cells #[Value.string s] 9) = W4 at *
  clear hB0 hB1 hB2 hW3 hW4 hw3
  refine wpIn_rangeFunc_ownH rfl (by omega) (gf := 94) (lb := #[.pointer (some ⟨w.heap.size + 1 + 1 + 1, 0, none⟩)]) rfl trivial (enters_of Tryd.func94 (by kernel_rfl) rfl)
    (all_stops (6 - 1) (by omega) (w.heap.size + 1 + 1 + 1) w.heap.size s W4 hw4.size (he.below hw4) hg hB3s) kpAll_t (kpAll_b hw4.size (by simp [hz4])) (Below.refl _ _) (fun _ => rfl)
    (SizesI w n s)
    (fun _ _ _ => False)
    (sizesI_own w n s hw4.size)
    (fun _ _ _ _ _ hs _ _ => hs)
    ⟨⟨hB1', hB2', hB0', hB3'⟩, hw4⟩
    (fun x a' W => ∃ Bx, w.heap.size + 1 + 1 + 1 < Bx ∧ Blk W Bx #[.int .i32 x.2.1, .int .i64 x.2.2.1, .bool x.2.2.2] 136 ∧ a' = { tmps := #[.slice A n c, undef, .pointer (some ⟨w.heap.size, 0, none⟩), .pointer (some ⟨w.heap.size + 1, 0, none⟩), .pointer (some ⟨w.heap.size + 1 + 1, 0, none⟩), undef, .pointer (some ⟨Bx, 0, none⟩), .slice A n c, .int .i64 n, .agg #[.int .i64 n, .int .i64 0, .int .i64 0, .int .i64 0], .slice A n c, .func (.func 94) #[] #[.pointer (some ⟨w.heap.size + 1 + 1 + 1, 0, none⟩)], .int .i64 x.1, .agg #[.int .i32 x.2.1, .int .i64 x.2.2.1, .bool x.2.2.2], undef, undef, undef, undef, undef, undef, undef, undef, undef, undef, undef, undef, undef, undef, undef, undef, undef, undef, undef, undef, undef, undef, undef, undef, undef, undef, undef, undef, undef, undef], defers := [] })
    (fun x a' _ X Y row ⟨Bx, h1, h2, h3⟩ hg hr => ⟨Bx, h1, blk_own _ _ (fun _ : Unit => #[.int .i32 x.2.1, .int .i64 x.2.2.1, .bool x.2.2.2]) () X Y row h2 hg (fun r e => (hr r e).2), h3⟩) ?assign ?body ?done ?stop
  case assign =>
    rintro l pre x W K hi hK
    obtain ⟨⟨hi1, hi2, hi3, hi5⟩, hi4⟩ := hi
    have hz := hi5.lt
    dsimp only [encStep]
    gi_wp2
    refine hK _ _ (KeepsOthers.from (by (repeat (first | (with_reducible exact KeepsOthers.refl _) | (with_reducible refine KeepsOthers.trans ?_ (KeepsOthers.setCell _ _ _)) | (with_reducible refine KeepsOthers.trans ?_ (KeepsOthers.alloc _ _)) | (with_reducible refine KeepsOthers.trans ?_ (KeepsOthers.drew _)) | (with_reducible refine KeepsOthers.trans ?_ (KeepsOthers.drewN _ _)) | (with_reducible refine KeepsOthers.trans ?_ (keepsOthers_of_below (by with_reducible assumption)))))) _) ⟨KeepsOthers.walks (by (repeat (first | (with_reducible exact KeepsOthers.refl _) | (with_reducible refine KeepsOthers.trans ?_ (KeepsOthers.setCell _ _ _)) | (with_reducible refine KeepsOthers.trans ?_ (KeepsOthers.alloc _ _)) | (with_reducible refine KeepsOthers.trans ?_ (KeepsOthers.drew _)) | (with_reducible refine KeepsOthers.trans ?_ (KeepsOthers.drewN _ _)) | (with_reducible refine KeepsOthers.trans ?_ (keepsOthers_of_below (by with_reducible assumption)))))), fun b hb => ?_, ?_⟩ ⟨⟨?_, ?_, ?_, ?_⟩, by (repeat (first | (with_reducible exact Below.refl _ _) | (with_reducible assumption) | (with_reducible apply bl_alloc) | (with_reducible apply bl_iter) | (with_reducible apply bl_drew) | (with_reducible apply bl_drewN) | (with_reducible refine bl_set ?_ (by first | assumption | (simp; done) | omega | (simp; omega)) _) | (with_reducible refine bl_then ?_ (by with_reducible assumption))))⟩ ⟨W.heap.size, hz, ?_, rfl⟩
    · rw [List.mem_singleton.1 hb]; (repeat (first | (with_reducible rfl) | (with_reducible assumption) | (with_reducible refine box_drew ?_) | (with_reducible refine box_drewN ?_ _) | (with_reducible refine box_set ?_ (by first | assumption | (simp; done) | omega | (simp; omega)) _) | (with_reducible refine box_alloc ?_ (by first | assumption | (simp; done) | omega | (simp; omega)) _)))
    · (repeat (first | (with_reducible exact Below.refl _ _) | (with_reducible assumption) | (with_reducible refine Below.drew ?_) | (with_reducible refine pw_below_drewN ?_ _) | (with_reducible refine below_at_set ?_ (by first | assumption | (simp; done) | omega | (simp; omega)) _) | (with_reducible refine below_at_alloc ?_ (by first | assumption | (simp; done) | omega | (simp; omega)) _)))
    · (repeat (first | (with_reducible assumption) | (with_reducible refine Blk.drew ?_) | (with_reducible refine Blk.drewN ?_ _) | (with_reducible refine Blk.alloc ?_ _) | (with_reducible refine Blk.other ?_ (by first | assumption | (simp; done) | omega | (simp; omega)) _) | (with_reducible apply Blk.set') | (with_reducible rfl) | (with_reducible refine Blk.below ?_ (by with_reducible assumption))))
    · (repeat (first | (with_reducible assumption) | (with_reducible refine Blk.drew ?_) | (with_reducible refine Blk.drewN ?_ _) | (with_reducible refine Blk.alloc ?_ _) | (with_reducible refine Blk.other ?_ (by first | assumption | (simp; done) | omega | (simp; omega)) _) | (with_reducible apply Blk.set') | (with_reducible rfl) | (with_reducible refine Blk.below ?_ (by with_reducible assumption))))
    · (repeat (first | (with_reducible assumption) | (with_reducible refine Blk.drew ?_) | (with_reducible refine Blk.drewN ?_ _) | (with_reducible refine Blk.alloc ?_ _) | (with_reducible refine Blk.other ?_ (by first | assumption | (simp; done) | omega | (simp; omega)) _) | (with_reducible apply Blk.set') | (with_reducible rfl) | (with_reducible refine Blk.below ?_ (by with_reducible assumption))))
    · (repeat (first | (with_reducible assumption) | (with_reducible refine Blk.drew ?_) | (with_reducible refine Blk.drewN ?_ _) | (with_reducible refine Blk.alloc ?_ _) | (with_reducible refine Blk.other ?_ (by first | assumption | (simp; done) | omega | (simp; omega)) _) | (with_reducible apply Blk.set') | (with_reducible rfl) | (with_reducible refine Blk.below ?_ (by with_reducible assumption))))
    · exact Blk.new _ _ _
  case body =>
    rintro l pre x a' W hl ⟨r, hrec⟩ hI ⟨Bx, hBx, hx, rfl⟩ hlt
    have hI0 := Lib.hid hI
    obtain ⟨⟨hi1, hi2, hi3, hi5⟩, hi4⟩ := hI
    have hd : 1 ≤ 6 - 1 - 1 := by omega
    have hmx : Tryd.prog.follows .mixedOrders = true := by kernel_rfl
    have c1 : W.cell? ⟨w.heap.size + 1, 1, none⟩ = some (.int .i64 pre.length) := hi1.cell 1
    have c2 : W.cell? ⟨w.heap.size + 1, 2, none⟩ = some (.int .i64 (cntUnits pre)) := hi1.cell 2
    have c3 : W.cell? ⟨w.heap.size + 1, 3, none⟩ = some (.int .i64 (cntEnds pre)) := hi1.cell 3
    have f1 := hi1.frozen 1
    have f2 := hi1.frozen 2
    have f3 := hi1.frozen 3
    have d0 : W.cell? ⟨w.heap.size + 1 + 1, 0, none⟩ = some (.int .i32 (lastOf pre)) := hi2.cell 0
    have df := hi2.frozen 0
    have e0 : W.cell? ⟨Bx, 0, none⟩ = some (.int .i32 x.2.1) := hx.cell 0
    have hcb := cnt_bounds pre
    have hus := unitsOf_range x.2.1
    have hne : Bx ≠ w.heap.size + 1 ∧ Bx ≠ w.heap.size + 1 + 1 := by omega
    have hsn := cntEnds_snoc pre x
    clear hi1 hi2 hi3 hi5 hi4 hx hB0' hB1' hB2' hB3' hB3s hw4 hrec
    by_cases k1 : x.2.1 = 13
    · have d1 : (x.2.1 == 13) = true := by rw [beq_iff_eq]; exact k1
      have R := Lib.hid (fun a => sizesI_end (x := x) W4.heap.size hI0.out (by rw [hsn]; simp [isEnd, d1]) a)
      clear k1 hsn
      gi_wp2
      gi_region_with_o (first | (refine ⟨trivial, ?_⟩; gi_at_call 89; refine (CallsIn.inRound l (callsIn_wide.2 (units_any _ _))).mono ?_; rintro e w' ⟨rfl, rfl⟩) | (gi_at_call 89; refine (CallsIn.inRound l (callsIn_wide.2 (units_any _ _))).mono ?_; rintro e w' ⟨rfl, rfl⟩))
      all_goals gi_wp2
      all_goals (try go_bits)
      all_goals exact R.out _
    · have d1 : (x.2.1 == 13) = false := by rw [beq_eq_false_iff_ne]; exact k1
      clear k1
      by_cases k2 : x.2.1 = 10
      · have d2 : (x.2.1 == 10) = true := by rw [beq_iff_eq]; exact k2
        clear k2
        cases k3 : lastOf pre != 13
        · have R := Lib.hid (fun a => sizesI_none (x := x) W4.heap.size hI0.out (by rw [hsn]; simp [isEnd, d1, d2, k3]) a)
          clear hsn
          gi_wp2
          gi_region_with_o (first | (refine ⟨trivial, ?_⟩; gi_at_call 89; refine (CallsIn.inRound l (callsIn_wide.2 (units_any _ _))).mono ?_; rintro e w' ⟨rfl, rfl⟩) | (gi_at_call 89; refine (CallsIn.inRound l (callsIn_wide.2 (units_any _ _))).mono ?_; rintro e w' ⟨rfl, rfl⟩))
          all_goals gi_wp2
          all_goals (try go_bits)
          all_goals exact R.out _
        · have R := Lib.hid (fun a => sizesI_end (x := x) W4.heap.size hI0.out (by rw [hsn]; simp [isEnd, d1, d2, k3]) a)
          clear hsn
          gi_wp2
          gi_region_with_o (first | (refine ⟨trivial, ?_⟩; gi_at_call 89; refine (CallsIn.inRound l (callsIn_wide.2 (units_any _ _))).mono ?_; rintro e w' ⟨rfl, rfl⟩) | (gi_at_call 89; refine (CallsIn.inRound l (callsIn_wide.2 (units_any _ _))).mono ?_; rintro e w' ⟨rfl, rfl⟩))
          all_goals gi_wp2
          all_goals (try go_bits)
          all_goals exact R.out _
      · have d2 : (x.2.1 == 10) = false := by rw [beq_eq_false_iff_ne]; exact k2
        have R := Lib.hid (fun a => sizesI_none (x := x) W4.heap.size hI0.out (by rw [hsn]; simp [isEnd, d1, d2]) a)
        clear k2 hsn
        gi_wp2
        gi_region_with_o (first | (refine ⟨trivial, ?_⟩; gi_at_call 89; refine (CallsIn.inRound l (callsIn_wide.2 (units_any _ _))).mono ?_; rintro e w' ⟨rfl, rfl⟩) | (gi_at_call 89; refine (CallsIn.inRound l (callsIn_wide.2 (units_any _ _))).mono ?_; rintro e w' ⟨rfl, rfl⟩))
        all_goals gi_wp2
        all_goals (try go_bits)
        all_goals exact R.out _
  case done =>
    rintro D ys W hD rfl ⟨⟨hi1, hi2, hi3, hi5⟩, hi4⟩ hK
    have c0 : W.cell? ⟨w.heap.size + 1, 0, none⟩ = some (.int .i64 n) := hi1.cell 0
    have c1 : W.cell? ⟨w.heap.size + 1, 1, none⟩ = some (.int .i64 (stepsOf s).length) := hi1.cell 1
    have c2 : W.cell? ⟨w.heap.size + 1, 2, none⟩ = some (.int .i64 (cntUnits (stepsOf s))) := hi1.cell 2
    have c3 : W.cell? ⟨w.heap.size + 1, 3, none⟩ = some (.int .i64 (cntEnds (stepsOf s))) := hi1.cell 3
    have r0 : W.cell? ⟨w.heap.size, 0, none⟩ = some (.int .i64 0) := hi3.cell 0
    have r1 : W.cell? ⟨w.heap.size, 1, none⟩ = some (.int .i64 0) := hi3.cell 1
    have r2 : W.cell? ⟨w.heap.size, 2, none⟩ = some (.int .i64 0) := hi3.cell 2
    have r3 : W.cell? ⟨w.heap.size, 3, none⟩ = some (.int .i64 0) := hi3.cell 3
    have f0 := hi3.frozen 0
    have f1 := hi3.frozen 1
    have f2 := hi3.frozen 2
    have f3 := hi3.frozen 3
    have HB := Lib.hid ((((hi3.set 0 (.int .i64 n)).set 1 (.int .i64 (stepsOf s).length)).set 2 (.int .i64 (cntUnits (stepsOf s)))).set 3 (.int .i64 (cntEnds (stepsOf s))))
    have HK := Lib.hid (((((KeepsOthers.setCell W ⟨w.heap.size, 0, none⟩ (.int .i64 n)).trans (KeepsOthers.setCell _ ⟨w.heap.size, 1, none⟩ (.int .i64 (stepsOf s).length))).trans (KeepsOthers.setCell _ ⟨w.heap.size, 2, none⟩ (.int .i64 (cntUnits (stepsOf s))))).trans (KeepsOthers.setCell _ ⟨w.heap.size, 3, none⟩ (.int .i64 (cntEnds (stepsOf s))))).same D _ hK rfl)
    have HL := Lib.hid (below_at_set (below_at_set (below_at_set (below_at_set hi4 (p := ⟨w.heap.size, 0, none⟩) (Nat.le_refl _) (.int .i64 n)) (p := ⟨w.heap.size, 1, none⟩) (Nat.le_refl _) (.int .i64 (stepsOf s).length)) (p := ⟨w.heap.size, 2, none⟩) (Nat.le_refl _) (.int .i64 (cntUnits (stepsOf s)))) (p := ⟨w.heap.size, 3, none⟩) (Nat.le_refl _) (.int .i64 (cntEnds (stepsOf s))))
    clear hi1 hi2 hi3 hi5 hi4 hB0' hB1' hB2' hB3' hB3s hw4 hK hr he
    gi_wp2
    refine ⟨by simp, .inl ⟨_, _, rfl, run_takeDeferred HK.out, ?_⟩⟩
    refine ⟨_, results_cell_row rfl _ _ w.heap.size 127 _ _ _ rfl ((World.putObj_heap_other (by omega)).trans HB.out) Tryd.underlying127 rfl (by kernel_rfl), by rw [show (stepsOf s).length = nSteps s from stepsUpto_length s _, hs0]; rfl, ?_⟩
    exact HL.out.trans (belowK_b (w := w) (Nat.le_refl _) _ D _ _ (by omega) HK.out rfl rfl)
  case stop =>
    rintro D c pre W _ _ h _
    exact h.elim
end Go.Proofs.YtcjplgcnjfinoaaDoor
