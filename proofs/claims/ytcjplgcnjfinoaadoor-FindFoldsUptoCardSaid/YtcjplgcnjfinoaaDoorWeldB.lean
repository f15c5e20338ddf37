/- Contracts of package weld's functions, exact: short, Valid. Conditions: the tables hold what their text lays. -/
import Derived.Test.YtcjplgcnjfinoaaDoorWeldA
namespace Go.Proofs.YtcjplgcnjfinoaaDoor
open Go.RowKit Go.Shelf Go.Proofs.YtcjplgcnjfinoaaDoorW.PrintWords Go.Proofs.YtcjplgcnjfinoaaDoorW.PrintMore
attribute [local go_sem] max2_int min2_int max_two min_two

/-- A measure whose sizes could be those of bytes, as far as its two ends go. -/
def Wd.ends (x : Wd) : Prop := 0 ≤ x.b ∧ x.b ≤ 268435456 ∧ (x.hd.size : Int) = min 3 x.b ∧ (x.tl.size : Int) = min 3 x.b
/-- By how many bytes the two ends of a short measure go over one another. -/
def Wd.over (x : Wd) : Nat := (x.hd.size + x.tl.size - x.b).toNat
def Wd.fine (x : Wd) : Bool := (x.hd.extract (x.hd.size - x.over) x.hd.size).toList == (x.tl.extract 0 x.over).toList
def Wd.shortS (x : Wd) : ByteArray := if x.fine then x.hd ++ x.tl.extract x.over x.tl.size else ⟨#[]⟩

set_option maxRecDepth 100000 in
set_option maxHeartbeats 1000000 in
theorem short_any (x : Wd) (hx : x.ends) (h6 : x.b ≤ 6) (w : World) :
    Calls Tryd.prog 101 #[.agg #[.int .i64 x.b, .int .i64 x.r, .int .i64 x.u, .int .i64 x.e, .string x.hd, .string x.tl]] w fun e w' => e = .returned (.tuple #[.string x.shortS, .bool x.fine]) ∧ Below w.heap.size w w' := by
  obtain ⟨h0, -, h2, h3⟩ := hx
  have hov : (x.over : Int) = x.hd.size + x.tl.size - x.b := by unfold Wd.over; omega
  have ho1 : x.over ≤ x.hd.size := by omega
  have ho2 : x.over ≤ x.tl.size := by omega
  have hs3 : x.hd.size ≤ 3 := by omega
  have ht3 : x.tl.size ≤ 3 := by omega
  unfold Wd.shortS
  have hq : (x.hd.size : Int) + x.tl.size - x.b = x.over := by omega
  have hbl := bl_alloc (Below.refl _ w) (Obj.cells #[.int .i64 x.b, .int .i64 x.r, .int .i64 x.u, .int .i64 x.e, .string x.hd, .string x.tl] 129)
  unfold Wd.fine
  generalize x.over = ov at *
  generalize hfi : ((x.hd.extract (x.hd.size - ov) x.hd.size).toList == (x.tl.extract 0 ov).toList) = fi at *
  clear h2 h3 hov
  cases fi
  · go_enter Tryd.func101, Tryd.ntmps101
    go_wp2
    go_quiet (fail)
    go_wp2
    go_ret2
    exact ⟨rfl, by (repeat (first | (with_reducible exact Below.refl _ _) | (with_reducible assumption) | (with_reducible apply bl_alloc) | (with_reducible apply bl_iter) | (with_reducible apply bl_drew) | (with_reducible apply bl_drewN) | (with_reducible refine bl_set ?_ (by first | assumption | (simp; done) | omega | (simp; omega)) _) | (with_reducible refine bl_then ?_ (by with_reducible assumption))))⟩
  · go_enter Tryd.func101, Tryd.ntmps101
    go_wp2
    go_quiet (fail)
    go_wp2
    go_quiet (fail)
    go_wp2
    go_ret2
    exact ⟨rfl, by (repeat (first | (with_reducible exact Below.refl _ _) | (with_reducible assumption) | (with_reducible apply bl_alloc) | (with_reducible apply bl_iter) | (with_reducible apply bl_drew) | (with_reducible apply bl_drewN) | (with_reducible refine bl_set ?_ (by first | assumption | (simp; done) | omega | (simp; omega)) _) | (with_reducible refine bl_then ?_ (by with_reducible assumption))))⟩

/-- Its numbers are within reach. -/
def Wd.near (x : Wd) : Prop := (-1099511627776 ≤ x.b ∧ x.b ≤ 1099511627776) ∧ (-1099511627776 ≤ x.r ∧ x.r ≤ 1099511627776) ∧ (-1099511627776 ≤ x.u ∧ x.u ≤ 1099511627776) ∧ (-1099511627776 ≤ x.e ∧ x.e ≤ 1099511627776)
def Wd.endsB (x : Wd) : Bool := decide (0 ≤ x.b) && decide (x.b ≤ 268435456) && decide ((x.hd.size : Int) = min 3 x.b) && decide ((x.tl.size : Int) = min 3 x.b)
def Wd.inner (x : Wd) : Bool := decide (0 ≤ x.r) && decide (x.r ≤ x.b) && decide (0 ≤ x.u) && decide (x.u ≤ x.b) && decide (0 ≤ x.u - x.r) && decide (0 ≤ x.r - (x.u - x.r)) && decide (x.r - (x.u - x.r) ≤ x.b - 4 * (x.u - x.r)) && decide (x.b - 4 * (x.u - x.r) ≤ 3 * (x.r - (x.u - x.r))) && decide (0 ≤ x.e) && decide (x.e ≤ x.r)
theorem Wd.endsB_iff (x : Wd) : x.endsB = true ↔ x.ends := by
  unfold Wd.endsB Wd.ends
  simp only [Bool.and_eq_true, decide_eq_true_eq]
  omega

set_option maxRecDepth 100000 in
set_option maxHeartbeats 1000000 in
theorem Valid_out (x : Wd) (hx : x.endsB = false) (w : World) :
    Calls Tryd.prog 95 #[.agg #[.int .i64 x.b, .int .i64 x.r, .int .i64 x.u, .int .i64 x.e, .string x.hd, .string x.tl]] w fun e w' => e = .returned (.bool false) ∧ Below w.heap.size w w' := by
  unfold Wd.endsB at hx
  by_cases h0 : x.b < 0
  · clear hx
    go_enter Tryd.func95, Tryd.ntmps95
    go_wp2
    go_ret
    exact ⟨rfl, by (repeat (first | (with_reducible exact Below.refl _ _) | (with_reducible assumption) | (with_reducible apply bl_alloc) | (with_reducible apply bl_iter) | (with_reducible apply bl_drew) | (with_reducible apply bl_drewN) | (with_reducible refine bl_set ?_ (by first | assumption | (simp; done) | omega | (simp; omega)) _) | (with_reducible refine bl_then ?_ (by with_reducible assumption))))⟩
  by_cases h1 : 268435456 < x.b
  · clear hx
    go_enter Tryd.func95, Tryd.ntmps95
    go_wp2
    go_ret
    exact ⟨rfl, by (repeat (first | (with_reducible exact Below.refl _ _) | (with_reducible assumption) | (with_reducible apply bl_alloc) | (with_reducible apply bl_iter) | (with_reducible apply bl_drew) | (with_reducible apply bl_drewN) | (with_reducible refine bl_set ?_ (by first | assumption | (simp; done) | omega | (simp; omega)) _) | (with_reducible refine bl_then ?_ (by with_reducible assumption))))⟩
  rw [decide_eq_true (by omega : 0 ≤ x.b), decide_eq_true (by omega : x.b ≤ 268435456)] at hx
  have hm : ∃ m : Int, min 3 x.b = m ∧ (if x.b < 3 then x.b else 3) = m := ⟨min 3 x.b, rfl, by split <;> omega⟩
  obtain ⟨m, e1, e2⟩ := hm
  rw [e1] at hx
  clear e1
  by_cases h2 : (x.hd.size : Int) = m
  · have h3 : ¬ (x.tl.size : Int) = m := by
      intro h
      rw [decide_eq_true h2, decide_eq_true h] at hx
      cases hx
    have d2 : ((x.hd.size : Int) != m) = false := by rw [bne_eq_false_iff_eq]; exact h2
    have d3 : ((x.tl.size : Int) != m) = true := by rw [bne_iff_ne]; exact h3
    clear hx h2 h3
    go_enter Tryd.func95, Tryd.ntmps95
    go_wp2
    go_ret
    exact ⟨rfl, by (repeat (first | (with_reducible exact Below.refl _ _) | (with_reducible assumption) | (with_reducible apply bl_alloc) | (with_reducible apply bl_iter) | (with_reducible apply bl_drew) | (with_reducible apply bl_drewN) | (with_reducible refine bl_set ?_ (by first | assumption | (simp; done) | omega | (simp; omega)) _) | (with_reducible refine bl_then ?_ (by with_reducible assumption))))⟩
  · have d2 : ((x.hd.size : Int) != m) = true := by rw [bne_iff_ne]; exact h2
    clear hx h2
    go_enter Tryd.func95, Tryd.ntmps95
    go_wp2
    go_ret
    exact ⟨rfl, by (repeat (first | (with_reducible exact Below.refl _ _) | (with_reducible assumption) | (with_reducible apply bl_alloc) | (with_reducible apply bl_iter) | (with_reducible apply bl_drew) | (with_reducible apply bl_drewN) | (with_reducible refine bl_set ?_ (by first | assumption | (simp; done) | omega | (simp; omega)) _) | (with_reducible refine bl_then ?_ (by with_reducible assumption))))⟩

set_option maxRecDepth 100000 in
set_option maxHeartbeats 1000000 in
theorem Valid_long (x : Wd) (hx : x.ends) (hn : x.near) (h6 : 6 < x.b) (w : World) :
    Calls Tryd.prog 95 #[.agg #[.int .i64 x.b, .int .i64 x.r, .int .i64 x.u, .int .i64 x.e, .string x.hd, .string x.tl]] w fun e w' => e = .returned (.bool x.inner) ∧ Below w.heap.size w w' := by
  obtain ⟨h0, h1, h2, h3⟩ := hx
  obtain ⟨⟨n0, n1⟩, ⟨n2, n3⟩, ⟨n4, n5⟩, ⟨n6, n7⟩⟩ := hn
  have d2 : ((x.hd.size : Int) != 3) = false := by rw [bne_eq_false_iff_eq]; omega
  have d3 : ((x.tl.size : Int) != 3) = false := by rw [bne_eq_false_iff_eq]; omega
  unfold Wd.inner
  clear h2 h3
  go_enter Tryd.func95, Tryd.ntmps95
  go_wp2
  all_goals go_ret
  all_goals refine ⟨?_, by (repeat (first | (with_reducible exact Below.refl _ _) | (with_reducible assumption) | (with_reducible apply bl_alloc) | (with_reducible apply bl_iter) | (with_reducible apply bl_drew) | (with_reducible apply bl_drewN) | (with_reducible refine bl_set ?_ (by first | assumption | (simp; done) | omega | (simp; omega)) _) | (with_reducible refine bl_then ?_ (by with_reducible assumption))))⟩
  all_goals first | rfl | (simp; done) | (simp; omega) | (simp; intros; omega)
end Go.Proofs.YtcjplgcnjfinoaaDoor
