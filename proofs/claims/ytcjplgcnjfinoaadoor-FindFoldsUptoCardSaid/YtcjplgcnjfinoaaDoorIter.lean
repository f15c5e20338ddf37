/- The iterator step.All over a string's steps: its contract, and what a round of a loop over it owes. Conditions: step.bad holds what its text lays. -/
import Derived.Test.YtcjplgcnjfinoaaDoorStep
import Derived.RangeFuncNested
import Derived.RangeFuncBound
import Derived.RangeFuncCalls
import Derived.RangeFuncLeaves
import Derived.Shelf.Abstract
import Derived.Shelf.RegionOpen
import Derived.OwnWalkIn
import Derived.TacticsInMore
import Derived.LoopNIn
import Derived.LoopIn
namespace Go.Proofs.YtcjplgcnjfinoaaDoor
open Go.RowKit Go.Shelf Go.Proofs.YtcjplgcnjfinoaaDoorW.PrintWords Go.Proofs.YtcjplgcnjfinoaaDoorW.PrintMore
attribute [local go_sem] Oper.semAt_some

/-- What a round keeps: iterators, the boxes that the iterator has captured, and what lay when the call began. -/
structure KpAll (n₀ : Nat) (bs : List Nat) (W W' : World) : Prop where
  walks : KeepsWalks W W'
  box : ∀ b, b ∈ bs → W'.heap[b]? = W.heap[b]?
  low : Below n₀ W W'
theorem kpAll_t {n₀ : Nat} {bs : List Nat} {A B C : World} (h : KpAll n₀ bs A B) (k : KpAll n₀ bs B C) : KpAll n₀ bs A C :=
  ⟨h.walks.trans k.walks, fun b hb => (k.box b hb).trans (h.box b hb), h.low.trans k.low⟩
theorem kpAll_b {n₀ : Nat} {bs : List Nat} {w : World} (hn : n₀ ≤ w.heap.size) (hbs : ∀ b, b ∈ bs → b < w.heap.size) (W : World) (l : Nat) (o o' : Obj) (hl : w.heap.size ≤ l) (h : W.heap[l]? = some o) (h1 : o.isCells = false) (h2 : o.isWalk = false) : KpAll n₀ bs W (W.putObj l o') :=
  ⟨walksK_b W l o o' hl h h1 h2, fun b hb => World.putObj_heap_other (by have := hbs b hb; omega), belowK_b hn W l o o' hl h h1 h2⟩
theorem KpAll.cell {n₀ : Nat} {bs : List Nat} {W W' : World} (h : KpAll n₀ bs W W') {b : Nat} (hb : b ∈ bs) (i : Nat) : W'.cell? ⟨b, i, none⟩ = W.cell? ⟨b, i, none⟩ := World.cell?_of_block (w := W) (h.box b hb)

/-- A step with its place: place, rune, width, whole. -/
abbrev StepT := Int × Int × Int × Bool
def encStep (x : StepT) : Array Value := #[.int .i64 x.1, .agg #[.int .i32 x.2.1, .int .i64 x.2.2.1, .bool x.2.2.2]]
def stepT (s : ByteArray) (p : Nat) : StepT := (p, stepRune (s.extract p s.size), stepWidth (s.extract p s.size), stepWhole (s.extract p s.size))
/-- Where the next step begins. -/
def nextAt (s : ByteArray) (p : Nat) : Nat := p + (Utf8.decode s p).2
/-- The first k steps' places. -/
def placeAt (s : ByteArray) : Nat → Nat
  | 0 => 0
  | k + 1 => nextAt s (placeAt s k)
def stepsUpto (s : ByteArray) (k : Nat) : List StepT := (List.range k).map fun j => stepT s (placeAt s j)
theorem stepsUpto_succ (s : ByteArray) (k : Nat) : stepsUpto s (k + 1) = stepsUpto s k ++ [stepT s (placeAt s k)] := by simp [stepsUpto, List.range_succ]
theorem stepsUpto_length (s : ByteArray) (k : Nat) : (stepsUpto s k).length = k := by simp [stepsUpto]
theorem decode_pos (s : ByteArray) (p : Nat) (h : p < s.size) : 1 ≤ (Utf8.decode s p).2 := by
  by_cases ha : (s[p]'h).toNat < 128
  · rw [decode_ascii s p h ha]; exact Nat.le_refl _
  · exact (decode_high s p h (by omega)).2
theorem placeAt_le (s : ByteArray) (k : Nat) (h : ∀ j, j < k → placeAt s j < s.size) : k ≤ placeAt s k := by
  induction k with
  | zero => exact Nat.zero_le _
  | succ k ih =>
    have := ih (fun j hj => h j (by omega))
    have h1 := decode_pos s (placeAt s k) (h k (by omega))
    show k + 1 ≤ placeAt s k + (Utf8.decode s (placeAt s k)).2
    omega
/-- All steps: k of them, the place behind the last at or behind the end, all others ahead of it. -/
def AllSteps (s : ByteArray) (ys : List StepT) : Prop := ∃ k, ys = stepsUpto s k ∧ (∀ j, j < k → placeAt s j < s.size) ∧ s.size ≤ placeAt s k

theorem run_next_at {P : Program} (W : World) (r : Nat) (s : ByteArray) (pos : Nat) (ty : TypeId) (h : W.heap[r]? = some (.stringIter s pos)) (hp : pos < s.size) :
    (Instr.next (.pointer (some ⟨r, 0, none⟩)) true ty).run P W = .ok (.tuple #[.bool true, .int .i64 pos, .int .i32 (Utf8.decode s pos).1]) (W.putObj r (.stringIter s (pos + (Utf8.decode s pos).2))) := by
  simp only [Instr.next, getObj, setObj, Sem.run_bind, Sem.run, h, Result.andThen, hp, if_true]
  simp [goInt, World.putObj]
theorem run_next_over {P : Program} (W : World) (r : Nat) (s : ByteArray) (pos : Nat) (ty : TypeId) (h : W.heap[r]? = some (.stringIter s pos)) (hp : ¬ pos < s.size) :
    (Instr.next (.pointer (some ⟨r, 0, none⟩)) true ty).run P W = .ok (.tuple #[.bool false]) W := by
  simp [Instr.next, getObj, Sem.run, h, hp]
theorem putObj_cell (W : World) (r : Nat) (s : ByteArray) (p q : Nat) (h : W.heap[r]? = some (.stringIter s p)) (a : Addr) : (W.putObj r (.stringIter s q)).cell? a = W.cell? a := by
  by_cases e : a.block = r
  · have hr : r < W.heap.size := (Array.getElem?_eq_some_iff.1 h).1
    have h1 : (W.putObj r (.stringIter s q)).heap[a.block]? = some (.stringIter s q) := by rw [e]; exact World.putObj_heap_same hr
    have h2 : W.heap[a.block]? = some (.stringIter s p) := by rw [e]; exact h
    simp only [World.cell?, h1, h2]
  · exact World.cell?_of_block (w := W) (World.putObj_heap_other e)

/-- What an iterator's step, and a call that makes memory behind it, leave of the body's word. -/
theorem abides_next {β : Type} {B : Nat} {J : β → World → Prop} (hJ : AbidesFrom B J) {x : β} {W w3 : World} {r : Nat} {s : ByteArray} {p q : Nat} (h : J x W) (hr : W.heap[r]? = some (.stringIter s p)) (hB : B ≤ r)
    (hb : Below (W.putObj r (.stringIter s q)).heap.size (W.putObj r (.stringIter s q)) w3) : J x w3 := by
  refine hJ x W w3 (some r) h ?_ (fun r' e => by cases e; exact ⟨hB, _, hr, rfl⟩)
  exact World.grownBy.trans (grownBy_putObj' W r _) (grown_of_below hb _)

set_option maxRecDepth 100000 in
set_option maxHeartbeats 2000000 in
/-- The closure that step.All answers: for every loop body that keeps what it must. -/
theorem All1_in (n : Nat) (hn : 1 ≤ n) (l Bs n₀ : Nat) (s : ByteArray) (J Jx : List StepT → World → Prop)
    (W : World) (hn₀ : n₀ ≤ W.heap.size) (hE : ∀ W', Below n₀ W W' → Env W')
    (hJ : AbidesFrom W.heap.size J)
    (hY : ∀ pre x W1, J pre W1 → pre.length < s.size → YieldAt Fence.wide (n - 1) Tryd.prog l (encStep x) W1 fun e W' =>
      (e = .returned (.bool true) ∧ J (pre ++ [x]) W' ∧ KpAll n₀ [Bs] W1 W') ∨ (e = .returned (.bool false) ∧ Jx (pre ++ [x]) W'))
    (hBs : W.cell? ⟨Bs, 0, none⟩ = some (.string s)) (h0 : J [] W) :
    CallsIn Fence.wide n Tryd.prog 94 #[.func (.yield l) #[] #[], .pointer (some ⟨Bs, 0, none⟩)] W fun e W' => (∃ v, e = .returned v) ∧
      ((∃ ys, AllSteps s ys ∧ J ys W') ∨ (∃ pre, (∃ k, pre = stepsUpto s k ∧ ∀ j, j < k → placeAt s j < s.size) ∧ Jx pre W')) := by
  have hBl : Bs < W.heap.size := cell_lt hBs
  refine callsIn_of_wp Tryd.func94 rfl trivial ?_ rfl
  simp only [Tryd.ntmps94, List.size_toArray, List.length_cons, List.length_nil, Nat.reduceAdd, Nat.reduceSub, Array.replicate_succ, Array.replicate_zero, List.push_toArray, List.append_toArray, List.nil_append, List.cons_append]
  gi_wp2
  gi_loopw [3] (fun _ wr => ∃ k : Nat, (∀ j, j < k → placeAt s j < s.size) ∧ wr.heap[W.heap.size]? = some (.stringIter s (placeAt s k)) ∧ J (stepsUpto s k) wr ∧ wr.heap[Bs]? = W.heap[Bs]? ∧ Below n₀ W wr) (fun _ wr => s.size - wr.iterPos W.heap.size)
  case atStart =>
    refine ⟨0, fun j hj => absurd hj (by omega), World.iter_heap W s 0, ?_, Below.heap_alloc W _ Bs hBl, ((Below.refl n₀ W).alloc hn₀ _)⟩
    exact hJ _ _ _ none h0 (World.grownBy_alloc W _ none) (fun r e => by cases e)
  case round =>
    obtain ⟨k, hpl, hit, hJs, hbox, hlow⟩ := hrel
    have hbox' : wr.cell? ⟨Bs, 0, none⟩ = some (.string s) := (World.cell?_of_block (w := W) hbox).trans hBs
    have hrange : W.heap.size < wr.heap.size := (Array.getElem?_eq_some_iff.1 hit).1
    by_cases hlt : placeAt s k < s.size
    · have hn1 := fun ty => run_next_at (P := Tryd.prog) wr W.heap.size s (placeAt s k) ty hit hlt
      have hlow2 : Below n₀ W (wr.putObj W.heap.size (.stringIter s (placeAt s k + (Utf8.decode s (placeAt s k)).2))) := hlow.grown (grownBy_putObj' wr _ _) (by omega) (fun r e => by cases e; exact hn₀)
      have hc2 := putObj_cell wr W.heap.size s (placeAt s k) (placeAt s k + (Utf8.decode s (placeAt s k)).2) hit ⟨Bs, 0, none⟩
      rw [hbox'] at hc2
      have hE2 := hE _ hlow2
      have hsz : (wr.putObj W.heap.size (.stringIter s (placeAt s k + (Utf8.decode s (placeAt s k)).2))).heap.size = wr.heap.size := World.putObj_size
      have hplS := Lib.hid (show ∀ j, j < k + 1 → placeAt s j < s.size from fun j hj => by
        rcases Nat.lt_or_ge j k with h | h
        · exact hpl j h
        · rw [show j = k from by omega]; exact hlt)
      have hkl : k < s.size := by have := placeAt_le s k hpl; omega
      have hpos := decode_pos s _ hlt
      have hit2 : (wr.putObj W.heap.size (.stringIter s (placeAt s k + (Utf8.decode s (placeAt s k)).2))).heap[W.heap.size]? = some (.stringIter s (placeAt s (k + 1))) := World.putObj_heap_same hrange
      have hbx2 : (wr.putObj W.heap.size (.stringIter s (placeAt s k + (Utf8.decode s (placeAt s k)).2))).heap[Bs]? = W.heap[Bs]? := (World.putObj_heap_other (by omega)).trans hbox
      have HJ3 := fun (w3 : World) (hb : Below (wr.putObj W.heap.size (.stringIter s (placeAt s k + (Utf8.decode s (placeAt s k)).2))).heap.size (wr.putObj W.heap.size (.stringIter s (placeAt s k + (Utf8.decode s (placeAt s k)).2))) w3) => hY (stepsUpto s k) (stepT s (placeAt s k)) w3 (abides_next hJ (w3 := w3) hJs hit (Nat.le_refl _) hb) (by rw [stepsUpto_length]; exact hkl)
      have hple : (placeAt s k : Int) ≤ s.size := by omega
      clear hbox' hbox hY hJs hpl
      generalize hW2 : wr.putObj W.heap.size (.stringIter s (placeAt s k + (Utf8.decode s (placeAt s k)).2)) = W2 at *
      clear hW2
      gi_wp2_with (first | (refine ⟨trivial, ?_⟩; gi_at_call 81; refine (callsIn_wide.2 (first_any _ _ hE2)).mono ?_; rintro e w3 ⟨rfl, hb3⟩; obtain ⟨fn, tmps, assign, body, hy, hR⟩ := HJ3 w3 hb3; dsimp only [encStep, stepT] at hy))
      refine hR.mono ?_
      rintro e W4 (⟨rfl, hJ4, hk4⟩ | ⟨rfl, hJx4⟩)
      · have hit3 : w3.heap[W.heap.size]? = some (.stringIter s (placeAt s (k + 1))) := (hb3.block _ (by omega)).trans hit2
        have hit4 : W4.heap[W.heap.size]? = some (.stringIter s (placeAt s (k + 1))) := hk4.walks.same _ _ hit3 rfl
        have hbx4 : W4.heap[Bs]? = W.heap[Bs]? := (hk4.box Bs (by simp)).trans ((hb3.block _ (by omega)).trans hbx2)
        have hlow4 : Below n₀ W W4 := (hlow2.trans (hb3.mono (by have := hlow2.size; omega))).trans hk4.low
        have hm1 : wr.iterPos W.heap.size = placeAt s k := by simp only [World.iterPos, hit]
        have hm2 : W4.iterPos W.heap.size = placeAt s (k + 1) := by simp only [World.iterPos, hit4]
        have hm3 : placeAt s (k + 1) = placeAt s k + (Utf8.decode s (placeAt s k)).2 := rfl
        have Hall := Lib.hid (And.intro hit4 (And.intro hbx4 (And.intro hm1 (And.intro hm2 hm3))))
        rw [← stepsUpto_succ] at hJ4
        clear hit3 hit4 hbx4 hm1 hm2 hm3 hit hit2 hbx2 hn1 hc2 HJ3
        gi_wp2
        go_roundw
        case rel => exact ⟨k + 1, hplS.out, Hall.out.1, hJ4, Hall.out.2.1, hlow4⟩
        case measure => obtain ⟨-, -, m1, m2, m3⟩ := Hall.out; rw [m1, m2, m3]; omega
      · rw [← stepsUpto_succ] at hJx4
        clear hit hit2 hbx2 hn1 hc2 HJ3
        gi_wp2
        refine bodyPost_ret (results_none rfl _ _ _) rfl ?_
        exact ⟨⟨_, rfl⟩, .inr ⟨_, ⟨k + 1, rfl, hplS.out⟩, hJx4⟩⟩
    · have hn1 := fun ty => run_next_over (P := Tryd.prog) wr W.heap.size s (placeAt s k) ty hit hlt
      have R := Lib.hid (show AllSteps s (stepsUpto s k) from ⟨k, rfl, hpl, by omega⟩)
      clear hit hbox hpl hbox'
      gi_wp2
      go_end0
      exact ⟨⟨_, rfl⟩, .inl ⟨_, R.out, hJs⟩⟩

/-- How many steps a text has. -/
def nSteps (s : ByteArray) : Nat := ((List.range (s.size + 1)).find? fun k => decide (s.size ≤ placeAt s k)).getD 0
def stepsOf (s : ByteArray) : List StepT := stepsUpto s (nSteps s)
theorem AllSteps.eq {s : ByteArray} {ys : List StepT} (h : AllSteps s ys) : ys = stepsOf s := by
  obtain ⟨k, rfl, hp, hk⟩ := h
  have hkl := placeAt_le s k hp
  have hks : k < s.size + 1 := by
    rcases Nat.eq_zero_or_pos k with h | h
    · omega
    · have h1 := hp (k - 1) (by omega)
      have h2 := placeAt_le s (k - 1) (fun j hj => hp j (by omega))
      omega
  suffices nSteps s = k by rw [stepsOf, this]
  have hf : (List.range (s.size + 1)).find? (fun k => decide (s.size ≤ placeAt s k)) = some k := by
    rw [List.find?_range_eq_some]
    refine ⟨decide_eq_true hk, List.mem_range.2 hks, fun j hj => ?_⟩
    have := hp j hj
    simp only [Bool.not_eq_true', decide_eq_false_iff_not]
    omega
  rw [nSteps, hf]
  rfl

set_option maxRecDepth 100000 in
theorem stepAll_any (A : Option Addr) (n c : Nat) (xs : List Int) (w : World) (hr : ReadsInt w .u8 A n xs) :
    Calls Tryd.prog 88 #[.slice A n c] w fun e w' => e = .returned (.func (.func 94) #[] #[.pointer (some ⟨w.heap.size, 0, none⟩)]) ∧ w' = w.alloc (.cells #[.string (strOfNums xs)] 9) := by
  have hstr := bytes_string (c := c) hr
  clear hr
  go_enter Tryd.func88, Tryd.ntmps88
  go_wp2
  go_ret
  exact ⟨rfl, by simp⟩

/-- The closure as the loops' law wants it. -/
theorem all_stops (n : Nat) (hn : 1 ≤ n) (Bs n₀ : Nat) (s : ByteArray) (w : World) (hn₀ : n₀ ≤ w.heap.size) (hE : Env w) (hg : 3 < n₀ ∧ 1 < n₀ ∧ 2 < n₀ ∧ 0 < n₀) (hB : w.cell? ⟨Bs, 0, none⟩ = some (.string s)) :
    SeqStopsK Fence.wide n Tryd.prog 94 #[.pointer (some ⟨Bs, 0, none⟩)] encStep (KpAll n₀ [Bs]) (fun ys => ys = stepsOf s) (fun _ => True) s.size w := fun l J Jx W hW hJ _ hY h0 => by
  have hB' := (hW.cell (p := ⟨Bs, 0, none⟩) (cell_lt hB)).trans hB
  refine (All1_in n hn l Bs n₀ s J Jx W (Nat.le_trans hn₀ hW.size) (fun W' hb => ?_) hJ hY hB' h0).mono ?_
  · have hl : Below n₀ w W' := (hW.mono hn₀).trans hb
    exact ⟨fun j v hv => (hl.cell (p := ⟨_, j, none⟩) hg.2.2.2).trans (hE.bad j v hv), fun j v hv => (hl.cell (p := ⟨_, j, none⟩) hg.2.1).trans (hE.masks j v hv), fun j v hv => (hl.cell (p := ⟨_, j, none⟩) hg.2.2.1).trans (hE.needs j v hv), fun j v hv => (hl.cell (p := ⟨_, j, none⟩) hg.1).trans (hE.spans j v hv)⟩
  · rintro e W' ⟨he, ⟨ys, ha, hj⟩ | ⟨pre, -, hj⟩⟩
    · exact ⟨he, .inl ⟨ys, ha.eq, hj⟩⟩
    · exact ⟨he, .inr ⟨pre, trivial, hj⟩⟩
end Go.Proofs.YtcjplgcnjfinoaaDoor
