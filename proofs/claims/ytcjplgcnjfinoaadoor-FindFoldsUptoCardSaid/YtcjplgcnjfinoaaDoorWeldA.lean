/- Contracts of package weld's functions, exact: sum, head, tail, Of, short, Valid, seam, both, Join. Conditions: the tables hold what their text lays. -/
import Derived.Test.YtcjplgcnjfinoaaDoorSizes
import Derived.Test.YtcjplgcnjfinoaaDoorOct
import Derived.StillTailTactics
import Derived.Deep.RegionHeld3
namespace Go.Proofs.YtcjplgcnjfinoaaDoor
open Go.RowKit Go.Shelf Go.Proofs.YtcjplgcnjfinoaaDoorW.PrintWords Go.Proofs.YtcjplgcnjfinoaaDoorW.PrintMore
attribute [local go_sem] max2_int min2_int max_two min_two

/-- A measure. -/
structure Wd where
  (b r u e : Int)
  (hd tl : ByteArray)
/-- Its numbers are within reach. -/
def Wd.fits (x : Wd) : Prop := (-1152921504606846976 ≤ x.b ∧ x.b ≤ 1152921504606846976) ∧ (-1152921504606846976 ≤ x.r ∧ x.r ≤ 1152921504606846976) ∧ (-1152921504606846976 ≤ x.u ∧ x.u ≤ 1152921504606846976) ∧ (-1152921504606846976 ≤ x.e ∧ x.e ≤ 1152921504606846976)

/-- What a cell holds, whatever it is. -/
def cellOr (W : World) (p : Addr) : Value := (W.cell? p).getD undef
/-- A block of one's own of n cells, whatever they hold. -/
def RB (W : World) (g n : Nat) (t : TypeId) : Prop := ∃ cs : Array Value, cs.size = n ∧ Blk W g cs t
theorem RB.cell {W : World} {g n : Nat} {t : TypeId} (h : RB W g n t) (i : Nat) (hi : i < n) : W.cell? ⟨g, i, none⟩ = some (cellOr W ⟨g, i, none⟩) := by
  obtain ⟨cs, hs, hb⟩ := h
  unfold cellOr
  rw [hb.cell i, Array.getElem?_eq_getElem (by omega)]
  rfl
theorem RB.frozen {W : World} {g n : Nat} {t : TypeId} (h : RB W g n t) (i : Nat) : W.frozen? ⟨g, i, none⟩ = false := by
  obtain ⟨cs, hs, hb⟩ := h
  exact hb.frozen i
theorem RB.set {W : World} {g n : Nat} {t : TypeId} (h : RB W g n t) (i : Nat) (v : Value) : RB (W.setCell ⟨g, i, none⟩ v) g n t := by
  obtain ⟨cs, hs, hb⟩ := h
  exact ⟨_, by rw [Array.size_setIfInBounds]; exact hs, hb.set i v⟩
theorem RB.below {W W' : World} {g n : Nat} {t : TypeId} (h : RB W g n t) (hb : Below W.heap.size W W') : RB W' g n t := by
  obtain ⟨cs, hs, h'⟩ := h
  exact ⟨cs, hs, h'.below hb⟩
theorem RB.drew {W : World} {g n : Nat} {t : TypeId} (h : RB W g n t) : RB W.drew g n t := h
theorem RB.alloc {W : World} {g n : Nat} {t : TypeId} (h : RB W g n t) (o : Obj) : RB (W.alloc o) g n t := by
  obtain ⟨cs, hs, h'⟩ := h
  exact ⟨cs, hs, h'.alloc o⟩
theorem RB.other {W : World} {g n : Nat} {t : TypeId} (h : RB W g n t) {p : Addr} (hp : g ≠ p.block) (v : Value) : RB (W.setCell p v) g n t := by
  obtain ⟨cs, hs, h'⟩ := h
  exact ⟨cs, hs, h'.other hp v⟩
theorem Blk.rb {W : World} {g : Nat} {cs : Array Value} {t : TypeId} (h : Blk W g cs t) : RB W g cs.size t := ⟨cs, rfl, h⟩

theorem head_any (s : ByteArray) (w : World) : Calls Tryd.prog 98 #[.string s] w fun e w' => e = .returned (.string (s.extract 0 (min 3 s.size))) ∧ w = w' := by
  by_cases h : s.size < 3
  · have hm : min 3 s.size = s.size := by omega
    have h' : (s.size : Int) < 3 := by omega
    rw [hm]
    go_enter Tryd.func98, Tryd.ntmps98
    go_wp2
    go_ret
    exact ⟨by simp, rfl⟩
  · have hm : min 3 s.size = 3 := by omega
    have h' : ¬ (s.size : Int) < 3 := by omega
    have h3 : 3 ≤ s.size := by omega
    rw [hm]
    go_enter Tryd.func98, Tryd.ntmps98
    go_wp2
    go_ret
    exact ⟨rfl, rfl⟩
theorem tail_any (s : ByteArray) (w : World) (hs : s.size ≤ 140737488351232) : Calls Tryd.prog 99 #[.string s] w fun e w' => e = .returned (.string (s.extract (s.size - 3) s.size)) ∧ w = w' := by
  by_cases h : 3 < s.size
  · have h' : 0 < (s.size : Int) - 3 := by omega
    go_enter Tryd.func99, Tryd.ntmps99
    go_wp2
    go_ret
    exact ⟨rfl, rfl⟩
  · have h' : ¬ 0 < (s.size : Int) - 3 := by omega
    have hm : s.size - 3 = 0 := by omega
    rw [hm]
    clear hm
    go_enter Tryd.func99, Tryd.ntmps99
    go_wp2
    go_ret
    exact ⟨by simp, rfl⟩

set_option maxRecDepth 100000 in
set_option maxHeartbeats 1000000 in
theorem sum_one (a0 a1 a2 a3 b0 b1 b2 b3 : Int) (h0 : -1152921504606846976 ≤ a0 ∧ a0 ≤ 1152921504606846976) (h1 : -1152921504606846976 ≤ a1 ∧ a1 ≤ 1152921504606846976) (h2 : -1152921504606846976 ≤ a2 ∧ a2 ≤ 1152921504606846976) (h3 : -1152921504606846976 ≤ a3 ∧ a3 ≤ 1152921504606846976)
    (k0 : -1152921504606846976 ≤ b0 ∧ b0 ≤ 1152921504606846976) (k1 : -1152921504606846976 ≤ b1 ∧ b1 ≤ 1152921504606846976) (k2 : -1152921504606846976 ≤ b2 ∧ b2 ≤ 1152921504606846976) (k3 : -1152921504606846976 ≤ b3 ∧ b3 ≤ 1152921504606846976) (w : World) :
    Calls Tryd.prog 97 #[.agg #[.int .i64 a0, .int .i64 a1, .int .i64 a2, .int .i64 a3], .agg #[.int .i64 b0, .int .i64 b1, .int .i64 b2, .int .i64 b3], .int .i64 1] w fun e w' => e = .returned (.agg #[.int .i64 (a0 + b0), .int .i64 (a1 + b1), .int .i64 (a2 + b2), .int .i64 (a3 + b3)]) ∧ Below w.heap.size w w' := by
  obtain ⟨h0a, h0b⟩ := h0; obtain ⟨h1a, h1b⟩ := h1; obtain ⟨h2a, h2b⟩ := h2; obtain ⟨h3a, h3b⟩ := h3
  obtain ⟨k0a, k0b⟩ := k0; obtain ⟨k1a, k1b⟩ := k1; obtain ⟨k2a, k2b⟩ := k2; obtain ⟨k3a, k3b⟩ := k3
  go_enter Tryd.func97, Tryd.ntmps97
  go_wp2
  exact bodyPost_ret (by simp [results, Tryd.results97, go_sem]) rfl ⟨rfl, by (repeat (first | (with_reducible exact Below.refl _ _) | (with_reducible assumption) | (with_reducible apply bl_alloc) | (with_reducible apply bl_iter) | (with_reducible apply bl_drew) | (with_reducible apply bl_drewN) | (with_reducible refine bl_set ?_ (by first | assumption | (simp; done) | omega | (simp; omega)) _) | (with_reducible refine bl_then ?_ (by with_reducible assumption))))⟩

set_option maxRecDepth 100000 in
set_option maxHeartbeats 1000000 in
theorem sum_neg (a0 a1 a2 a3 b0 b1 b2 b3 : Int) (h0 : -1152921504606846976 ≤ a0 ∧ a0 ≤ 1152921504606846976) (h1 : -1152921504606846976 ≤ a1 ∧ a1 ≤ 1152921504606846976) (h2 : -1152921504606846976 ≤ a2 ∧ a2 ≤ 1152921504606846976) (h3 : -1152921504606846976 ≤ a3 ∧ a3 ≤ 1152921504606846976)
    (k0 : -1152921504606846976 ≤ b0 ∧ b0 ≤ 1152921504606846976) (k1 : -1152921504606846976 ≤ b1 ∧ b1 ≤ 1152921504606846976) (k2 : -1152921504606846976 ≤ b2 ∧ b2 ≤ 1152921504606846976) (k3 : -1152921504606846976 ≤ b3 ∧ b3 ≤ 1152921504606846976) (w : World) :
    Calls Tryd.prog 97 #[.agg #[.int .i64 a0, .int .i64 a1, .int .i64 a2, .int .i64 a3], .agg #[.int .i64 b0, .int .i64 b1, .int .i64 b2, .int .i64 b3], .int .i64 (-1)] w fun e w' => e = .returned (.agg #[.int .i64 (a0 + -b0), .int .i64 (a1 + -b1), .int .i64 (a2 + -b2), .int .i64 (a3 + -b3)]) ∧ Below w.heap.size w w' := by
  obtain ⟨h0a, h0b⟩ := h0; obtain ⟨h1a, h1b⟩ := h1; obtain ⟨h2a, h2b⟩ := h2; obtain ⟨h3a, h3b⟩ := h3
  obtain ⟨k0a, k0b⟩ := k0; obtain ⟨k1a, k1b⟩ := k1; obtain ⟨k2a, k2b⟩ := k2; obtain ⟨k3a, k3b⟩ := k3
  go_enter Tryd.func97, Tryd.ntmps97
  go_wp2
  exact bodyPost_ret (by simp [results, Tryd.results97, go_sem]) rfl ⟨rfl, by (repeat (first | (with_reducible exact Below.refl _ _) | (with_reducible assumption) | (with_reducible apply bl_alloc) | (with_reducible apply bl_iter) | (with_reducible apply bl_drew) | (with_reducible apply bl_drewN) | (with_reducible refine bl_set ?_ (by first | assumption | (simp; done) | omega | (simp; omega)) _) | (with_reducible refine bl_then ?_ (by with_reducible assumption))))⟩

/-- The measure of bytes. -/
def ofW (xs : List Int) : Wd := { b := xs.length, r := nSteps (strOfNums xs), u := cntUnits (stepsOf (strOfNums xs)), e := cntEnds (stepsOf (strOfNums xs)), hd := strOfNums (xs.take 3), tl := strOfNums (xs.drop (xs.length - 3)) }

theorem ofS_set {w W : World} {X Y : Value} {hd tl : ByteArray} (k3 : ∀ W : World, Below w.heap.size w W → (convert 23 9 X).run Tryd.prog W = .ok (.string hd) W) (k4 : ∀ W : World, Below w.heap.size w W → (convert 23 9 Y).run Tryd.prog W = .ok (.string tl) W)
    (hb : Below w.heap.size w W) (hr : RB W w.heap.size 6 129) (v0 v1 v2 v3 v4 v5 : Value) :
    (convert 23 9 X).run Tryd.prog ((((((W.setCell ⟨w.heap.size, 0, none⟩ v0).setCell ⟨w.heap.size, 1, none⟩ v1).setCell ⟨w.heap.size, 2, none⟩ v2).setCell ⟨w.heap.size, 3, none⟩ v3).setCell ⟨w.heap.size, 4, none⟩ v4).setCell ⟨w.heap.size, 5, none⟩ v5) = .ok (.string hd) ((((((W.setCell ⟨w.heap.size, 0, none⟩ v0).setCell ⟨w.heap.size, 1, none⟩ v1).setCell ⟨w.heap.size, 2, none⟩ v2).setCell ⟨w.heap.size, 3, none⟩ v3).setCell ⟨w.heap.size, 4, none⟩ v4).setCell ⟨w.heap.size, 5, none⟩ v5) ∧
    (convert 23 9 Y).run Tryd.prog ((((((W.setCell ⟨w.heap.size, 0, none⟩ v0).setCell ⟨w.heap.size, 1, none⟩ v1).setCell ⟨w.heap.size, 2, none⟩ v2).setCell ⟨w.heap.size, 3, none⟩ v3).setCell ⟨w.heap.size, 4, none⟩ v4).setCell ⟨w.heap.size, 5, none⟩ v5) = .ok (.string tl) ((((((W.setCell ⟨w.heap.size, 0, none⟩ v0).setCell ⟨w.heap.size, 1, none⟩ v1).setCell ⟨w.heap.size, 2, none⟩ v2).setCell ⟨w.heap.size, 3, none⟩ v3).setCell ⟨w.heap.size, 4, none⟩ v4).setCell ⟨w.heap.size, 5, none⟩ v5) ∧
    Below w.heap.size w ((((((W.setCell ⟨w.heap.size, 0, none⟩ v0).setCell ⟨w.heap.size, 1, none⟩ v1).setCell ⟨w.heap.size, 2, none⟩ v2).setCell ⟨w.heap.size, 3, none⟩ v3).setCell ⟨w.heap.size, 4, none⟩ v4).setCell ⟨w.heap.size, 5, none⟩ v5) ∧
    RB ((((((W.setCell ⟨w.heap.size, 0, none⟩ v0).setCell ⟨w.heap.size, 1, none⟩ v1).setCell ⟨w.heap.size, 2, none⟩ v2).setCell ⟨w.heap.size, 3, none⟩ v3).setCell ⟨w.heap.size, 4, none⟩ v4).setCell ⟨w.heap.size, 5, none⟩ v5) w.heap.size 6 129 ∧
    (∀ i, i < 6 → ((((((W.setCell ⟨w.heap.size, 0, none⟩ v0).setCell ⟨w.heap.size, 1, none⟩ v1).setCell ⟨w.heap.size, 2, none⟩ v2).setCell ⟨w.heap.size, 3, none⟩ v3).setCell ⟨w.heap.size, 4, none⟩ v4).setCell ⟨w.heap.size, 5, none⟩ v5).cell? ⟨w.heap.size, i, none⟩ = some (cellOr ((((((W.setCell ⟨w.heap.size, 0, none⟩ v0).setCell ⟨w.heap.size, 1, none⟩ v1).setCell ⟨w.heap.size, 2, none⟩ v2).setCell ⟨w.heap.size, 3, none⟩ v3).setCell ⟨w.heap.size, 4, none⟩ v4).setCell ⟨w.heap.size, 5, none⟩ v5) ⟨w.heap.size, i, none⟩)) ∧
    ∀ i, ((((((W.setCell ⟨w.heap.size, 0, none⟩ v0).setCell ⟨w.heap.size, 1, none⟩ v1).setCell ⟨w.heap.size, 2, none⟩ v2).setCell ⟨w.heap.size, 3, none⟩ v3).setCell ⟨w.heap.size, 4, none⟩ v4).setCell ⟨w.heap.size, 5, none⟩ v5).frozen? ⟨w.heap.size, i, none⟩ = false := by
  have hb' := below_at_set (below_at_set (below_at_set (below_at_set (below_at_set (below_at_set hb (p := ⟨w.heap.size, 0, none⟩) (Nat.le_refl _) v0) (p := ⟨w.heap.size, 1, none⟩) (Nat.le_refl _) v1) (p := ⟨w.heap.size, 2, none⟩) (Nat.le_refl _) v2) (p := ⟨w.heap.size, 3, none⟩) (Nat.le_refl _) v3) (p := ⟨w.heap.size, 4, none⟩) (Nat.le_refl _) v4) (p := ⟨w.heap.size, 5, none⟩) (Nat.le_refl _) v5
  have hr' := (((((hr.set 0 v0).set 1 v1).set 2 v2).set 3 v3).set 4 v4).set 5 v5
  exact ⟨k3 _ hb', k4 _ hb', hb', hr', hr'.cell, hr'.frozen⟩

set_option maxRecDepth 100000 in
set_option maxHeartbeats 1000000 in
theorem Of_any (A : Option Addr) (n c : Nat) (xs : List Int) (w : World) (he : Env w) (hr : ReadsInt w .u8 A n xs) (hc : n ≤ c) (hn : n ≤ 268435456) :
    Calls Tryd.prog 79 #[.slice A n c] w fun e w' => e = .returned (.agg #[.int .i64 (ofW xs).b, .int .i64 (ofW xs).r, .int .i64 (ofW xs).u, .int .i64 (ofW xs).e, .string (ofW xs).hd, .string (ofW xs).tl]) ∧ Below w.heap.size w w' := by
  have hw1 : Below w.heap.size w (w.alloc (.cells #[.int .i64 0, .int .i64 0, .int .i64 0, .int .i64 0, .string ⟨#[]⟩, .string ⟨#[]⟩] 129)) := by (repeat (first | (with_reducible exact Below.refl _ _) | (with_reducible assumption) | (with_reducible apply bl_alloc) | (with_reducible apply bl_iter) | (with_reducible apply bl_drew) | (with_reducible apply bl_drewN) | (with_reducible refine bl_set ?_ (by first | assumption | (simp; done) | omega | (simp; omega)) _) | (with_reducible refine bl_then ?_ (by with_reducible assumption))))
  have he1 := he.below hw1
  have hr1 := hr.below hw1
  have hS := Sizes_any A n c xs _ he1 hr1 (by omega)
  have hn' : ¬ (268435456 : Int) < n := by omega
  have hl : xs.length = n := hr.1
  have key : ∃ (m : Nat) (lo : Nat) (A' : Option Addr) (c' : Nat), (if (n : Int) < 3 then (n : Int) else 3) = m ∧ (if (0 : Int) < (n : Int) - 3 then (n : Int) - 3 else 0) = lo ∧
      (∀ W : World, (Instr.slice 23 (.slice A n c) none (some (.int .i64 m)) none).run Tryd.prog W = .ok (.slice A m c) W) ∧
      (∀ W : World, (Instr.slice 23 (.slice A n c) (some (.int .i64 lo)) none none).run Tryd.prog W = .ok (.slice A' (n - lo) c') W) ∧
      (∀ W : World, Below w.heap.size w W → (convert 23 9 (.slice A m c)).run Tryd.prog W = .ok (.string (ofW xs).hd) W) ∧
      (∀ W : World, Below w.heap.size w W → (convert 23 9 (.slice A' (n - lo) c')).run Tryd.prog W = .ok (.string (ofW xs).tl) W) := by
    have hm : (min 3 n : Int) = ((min 3 n : Nat) : Int) := by omega
    obtain ⟨k1, k2⟩ := cut_bytes_to A n c (min 3 n : Nat) (by omega) (by omega) hc
    obtain ⟨A', g1, g2⟩ := cut_bytes_from A n c (n - 3 : Nat) (by omega) (by omega) hc
    rw [Int.toNat_natCast] at k1 k2
    simp only [Int.toNat_natCast] at g1 g2
    refine ⟨min 3 n, n - 3, A', c - (n - 3), by split <;> omega, by split <;> omega, k1, g1, fun W hb => ?_, fun W hb => ?_⟩
    · have hq := bytes_string (c := c) (k2 W xs (hr.below hb))
      have e : xs.take (min 3 n) = xs.take 3 := by
        rcases Nat.le_total 3 n with h | h
        · rw [Nat.min_eq_left h]
        · rw [Nat.min_eq_right h, List.take_of_length_le (by omega), List.take_of_length_le (by omega)]
      rw [e] at hq
      exact hq
    · have hq := bytes_string (c := c - (n - 3)) (g2 W xs (hr.below hb))
      rw [← hl] at hq
      rw [← hl]
      exact hq
  obtain ⟨m, lo, A', c', e1, e2, k1, k2, k3, k4⟩ := key
  have hfin : ((ofW xs).b, (ofW xs).r, (ofW xs).u, (ofW xs).e) = ((n : Int), (nSteps (strOfNums xs) : Int), cntUnits (stepsOf (strOfNums xs)), cntEnds (stepsOf (strOfNums xs))) := by simp [ofW, hl]
  simp only [Prod.mk.injEq] at hfin
  obtain ⟨f1, f2, f3, f4⟩ := hfin
  rw [f1, f2, f3, f4]
  generalize (ofW xs).hd = hd at *
  generalize (ofW xs).tl = tl at *
  have HE := Lib.hid he
  have HR := Lib.hid hr
  have e3 : (if (3 : Int) < (n : Int) then (n : Int) - 3 else 0) = lo := by rw [← e2]; congr 1; simp
  have hwr : IntKind.i64.wrap ((n : Int) - 3) = (n : Int) - 3 := IntWalk.i64_in _ (by omega)
  clear f1 f2 f3 f4 hl hr1 he1 hS hr he
  have hb0 : Below w.heap.size w (w.alloc (.cells #[.int .i64 0, .int .i64 0, .int .i64 0, .int .i64 0, .string ⟨#[]⟩, .string ⟨#[]⟩] 129)).drew := by (repeat (first | (with_reducible exact Below.refl _ _) | (with_reducible assumption) | (with_reducible apply bl_alloc) | (with_reducible apply bl_iter) | (with_reducible apply bl_drew) | (with_reducible apply bl_drewN) | (with_reducible refine bl_set ?_ (by first | assumption | (simp; done) | omega | (simp; omega)) _) | (with_reducible refine bl_then ?_ (by with_reducible assumption))))
  have hbk0 : RB (w.alloc (.cells #[.int .i64 0, .int .i64 0, .int .i64 0, .int .i64 0, .string ⟨#[]⟩, .string ⟨#[]⟩] 129)).drew w.heap.size 6 129 := RB.drew (Blk.rb (Blk.new w #[.int .i64 0, .int .i64 0, .int .i64 0, .int .i64 0, .string ⟨#[]⟩, .string ⟨#[]⟩] 129))
  go_enter Tryd.func79, Tryd.ntmps79
  go_wp2
  go_region_held3 (fun W => (convert 23 9 (.slice A m c)).run Tryd.prog W = .ok (.string hd) W ∧ (convert 23 9 (.slice A' (n - lo) c')).run Tryd.prog W = .ok (.string tl) W ∧ Below w.heap.size w W ∧ RB W w.heap.size 6 129 ∧ (∀ i, i < 6 → W.cell? ⟨w.heap.size, i, none⟩ = some (cellOr W ⟨w.heap.size, i, none⟩)) ∧ ∀ i, W.frozen? ⟨w.heap.size, i, none⟩ = false) (first | (with_reducible exact ⟨k3 _ hb3, k4 _ hb3, hb3, hbk3, hbk3.cell, hbk3.frozen⟩) | (with_reducible exact ⟨k3 _ hb0, k4 _ hb0, hb0, hbk0, hbk0.cell, hbk0.frozen⟩) | (with_reducible exact ofS_set k3 k4 (by with_reducible assumption) (by with_reducible assumption) _ _ _ _ _ _)) (first | (go_at_call 83; refine (Sizes_any A n c xs _ (HE.out.below (by assumption)) (HR.out.below (by assumption)) (by omega)).mono ?_; rintro e w2 ⟨rfl, hb2⟩; have hb3 : Below w.heap.size w w2 := bl_then (by assumption) hb2; have hbk3 : RB w2 w.heap.size 6 129 := RB.below (by assumption) hb2; have hcw := hbk3.cell))
  all_goals go_wp2
  all_goals exact bodyPost_ret (by simp [results, Tryd.results79, go_sem, hcw]) rfl ⟨rfl, by (repeat (first | (with_reducible exact Below.refl _ _) | (with_reducible assumption) | (with_reducible apply bl_alloc) | (with_reducible apply bl_iter) | (with_reducible apply bl_drew) | (with_reducible apply bl_drewN) | (with_reducible refine bl_set ?_ (by first | assumption | (simp; done) | omega | (simp; omega)) _) | (with_reducible refine bl_then ?_ (by with_reducible assumption))))⟩
end Go.Proofs.YtcjplgcnjfinoaaDoor
