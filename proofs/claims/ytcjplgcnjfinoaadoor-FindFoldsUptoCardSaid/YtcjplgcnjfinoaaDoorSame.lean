/- Contract of galleyref16.SameHits; the words for hits that are read. -/
import Derived.Test.YtcjplgcnjfinoaaDoorLawA
namespace Go.Proofs.YtcjplgcnjfinoaaDoor
open Go.RowKit Go.Shelf Go.Proofs.YtcjplgcnjfinoaaDoorW.PrintWords Go.Proofs.YtcjplgcnjfinoaaDoorW.PrintLast Go.Proofs.YtcjplgcnjfinoaaDoorW.PrintMore
attribute [local go_sem] max2_int min2_int max_two min_two
attribute [local go_sem high] eqHit

/-- A slice of hits, read. -/
def HitsAt (W : World) (A : Option Addr) (n : Nat) (hs : List (Int × Int)) : Prop :=
  hs.length = n ∧ n ≤ 9223372036854775807 ∧ (0 < n → ∃ ad, A = some ad ∧ ∀ j, j < n → W.cell? (ad.add (j * 2)) = some (.int .i64 (hs.getD j (0, 0)).1) ∧ W.cell? ⟨(ad.add (j * 2)).block, (ad.add (j * 2)).off + 1, none⟩ = some (.int .i64 (hs.getD j (0, 0)).2))
theorem HitsAt.below {W W' : World} {A : Option Addr} {n : Nat} {hs : List (Int × Int)} (h : HitsAt W A n hs) (hb : Below W.heap.size W W') : HitsAt W' A n hs :=
  ⟨h.1, h.2.1, fun hn => by
    obtain ⟨ad, e, hc⟩ := h.2.2 hn
    exact ⟨ad, e, fun j hj => ⟨pw_cell_below hb (hc j hj).1, pw_cell_below hb (hc j hj).2⟩⟩⟩
theorem hitCells_length (hs : List (Int × Int)) : (hitCells hs).length = hs.length * 2 := by
  induction hs with
  | nil => rfl
  | cons h hs ih => show (Value.int .i64 h.1 :: Value.int .i64 h.2 :: hitCells hs).length = _; rw [List.length_cons, List.length_cons, ih, List.length_cons]; omega
theorem hitCells_get (hs : List (Int × Int)) (j : Nat) (hj : j < hs.length) : (hitCells hs)[j * 2]? = some (.int .i64 (hs.getD j (0, 0)).1) ∧ (hitCells hs)[j * 2 + 1]? = some (.int .i64 (hs.getD j (0, 0)).2) := by
  induction hs generalizing j with
  | nil => simp at hj
  | cons h hs ih =>
    cases j with
    | zero => exact ⟨rfl, rfl⟩
    | succ j =>
      have := ih j (by simpa using hj)
      rw [show (j + 1) * 2 = j * 2 + 1 + 1 from by omega]
      exact this
/-- Hits of the call's own are read. -/
theorem own_hits {W : World} {base : Nat} {v : Value} {hs : List (Int × Int)} (h : W.ownsRow base 35 2 v hs.length (hitCells hs)) : ∃ A c, v = .slice A hs.length c ∧ hs.length ≤ c ∧ HitsAt W A hs.length hs := by
  obtain ⟨A, c, rfl⟩ := own_slice h
  have hle := own_le h
  refine ⟨A, c, rfl, hle, rfl, ?_, fun hn => ?_⟩
  · rcases h.2 with ⟨e, h1⟩ | ⟨g', cap', cur, he, _, _, h1, h2, _⟩
    · simp at e; omega
    · simp only [maxLen] at h2; omega
  · obtain ⟨g, c', e, -⟩ := h.form hn
    cases e
    refine ⟨_, rfl, fun j hj => ?_⟩
    have h0 := hitCells_get hs j hj
    refine ⟨h.cells (g := g) rfl _ _ h0.1, ?_⟩
    have := h.cells (g := g) rfl _ _ h0.2
    rw [add_plain] at this ⊢
    exact this

set_option maxRecDepth 100000 in
set_option maxHeartbeats 4000000 in
theorem SameHits_any (A B : Option Addr) (n c d : Nat) (hs : List (Int × Int)) (w : World) (ha : HitsAt w A n hs) (hb : HitsAt w B n hs) :
    Calls Tryd.prog 16 #[.slice A n c, .slice B n d] w fun e w' => e = .returned (.bool true) ∧ Below w.heap.size w w' := by
  have HA := Lib.hid (fun W (h : Below w.heap.size w W) => ha.below h)
  have HB := Lib.hid (fun W (h : Below w.heap.size w W) => hb.below h)
  have hmax := ha.2.1
  clear ha hb
  go_enter Tryd.func16, Tryd.ntmps16
  go_wp2
  go_loopw [5] (fun v wr => ∃ k : Nat, k ≤ n ∧ v = .int .i64 k ∧ Below w.heap.size w wr) (fun v _ => n - (intOf v).toNat)
  case atStart => exact ⟨0, Nat.zero_le _, rfl, Below.refl _ _⟩
  case round =>
    obtain ⟨k, hk, rfl, hbl⟩ := hrel
    by_cases hlt : k < n
    · have hlt' : (k : Int) < n := by omega
      obtain ⟨ad, rfl, hc⟩ := (HA.out wr hbl).2.2 (by omega)
      obtain ⟨ad', rfl, hd⟩ := (HB.out wr hbl).2.2 (by omega)
      obtain ⟨x0, x1⟩ := hc k hlt
      obtain ⟨y0, y1⟩ := hd k hlt
      have g0 : (0 : Int) ≤ (k : Int) := by omega
      have hbw : Below w.heap.size w wr.drew := hbl.drew
      clear hc hd HA HB
      generalize (hs.getD k (0, 0)).1 = X at *
      generalize (hs.getD k (0, 0)).2 = Y at *
      go_wp2
      go_region_with (fail)
      all_goals go_wp2
      all_goals go_roundw
      all_goals first | exact ⟨k + 1, by omega, by go_num, by (repeat (first | (with_reducible exact Below.refl _ _) | (with_reducible assumption) | (with_reducible apply bl_alloc) | (with_reducible apply bl_iter) | (with_reducible apply bl_drew) | (with_reducible apply bl_drewN) | (with_reducible refine bl_set ?_ (by first | assumption | (simp; done) | omega | (simp; omega)) _) | (with_reducible refine bl_then ?_ (by with_reducible assumption))))⟩ | (simp [intOf]; omega)
    · have hge : ¬ (k : Int) < n := by omega
      go_wp2
      go_ret
      exact ⟨rfl, by (repeat (first | (with_reducible exact Below.refl _ _) | (with_reducible assumption) | (with_reducible apply bl_alloc) | (with_reducible apply bl_iter) | (with_reducible apply bl_drew) | (with_reducible apply bl_drewN) | (with_reducible refine bl_set ?_ (by first | assumption | (simp; done) | omega | (simp; omega)) _) | (with_reducible refine bl_then ?_ (by with_reducible assumption))))⟩
end Go.Proofs.YtcjplgcnjfinoaaDoor
