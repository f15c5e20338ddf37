/- Contract of rope.level: the right side is the taller one. -/
import Derived.Test.YtcjplgcnjfinoaaDoorRopeD
namespace Go.Proofs.YtcjplgcnjfinoaaDoor
open Go.RowKit Go.Shelf Go.Proofs.YtcjplgcnjfinoaaDoorW.PrintWords Go.Proofs.YtcjplgcnjfinoaaDoorW.PrintMore
attribute [local go_sem] max2_int min2_int max_two min_two
attribute [local go_sem ↓] Go.wp_at_zero Go.wp_at_succ

set_option maxRecDepth 100000 in
set_option maxHeartbeats 4000000 in
theorem level_right (va vb : Value) (A B1 B2 : RT) (okA : A.ok) (okB : (RT.fork B1 B2).ok) (hsz : A.bytes.size + (RT.fork B1 B2).bytes.size ≤ 268435456) (h1 : A.high + 1 < (RT.fork B1 B2).high) (h2 : B1.high ≤ B2.high) (w : World) (he : Env w) (ha : IsNode w va A) (hb : IsNode w vb (.fork B1 B2)) :
    Calls Tryd.prog 69 #[va, vb] w fun e w' => (∃ v, e = .returned v ∧ Holds w' v (A.bytes ++ (RT.fork B1 B2).bytes)) ∧ Below w.heap.size w w' := by
  have hSB : (RT.fork B1 B2).bytes.size = B1.bytes.size + B2.bytes.size := ByteArray.size_append
  have hSA : (RT.fork A B1).bytes.size = A.bytes.size + B1.bytes.size := ByteArray.size_append
  have hAs : A.bytes ++ (RT.fork B1 B2).bytes = (A.bytes ++ B1.bytes) ++ B2.bytes := ByteArray.append_assoc.symm
  rw [hAs]
  have hhB := (RT.fork B1 B2).high_le okB
  have hh1 := B1.high_le okB.1
  have hh2 := B2.high_le okB.2
  have hhA := A.high_le okA
  obtain ⟨p, v1, v2, rfl, hp, n1, n2⟩ := hb
  have HP := Lib.hid (fun W (h : Below w.heap.size w W) => pair_any va v1 A B1 okA okB.1 (by omega) W (he.below h) (IsNode.below h A va ha) (IsNode.below h B1 v1 n1))
  have HQ := Lib.hid (fun W v (h : Below w.heap.size w W) (hN : IsNode W v (.fork A B1)) => pair_any v v2 (.fork A B1) B2 ⟨okA, okB.1⟩ okB.2 (by omega) W (he.below h) hN (IsNode.below h B2 v2 n2))
  have HH := Lib.hid (fun W v (h : IsNode W v (.fork (.fork A B1) B2)) => (show Holds W v ((A.bytes ++ B1.bytes) ++ B2.bytes) from ⟨_, h, ⟨⟨okA, okB.1⟩, okB.2⟩, rfl⟩))
  have KC := Lib.hid (fun W (h : Below w.heap.size w W) => (show W.cell? ⟨p, 0, none⟩ = some v1 ∧ W.cell? ⟨p, 1, none⟩ = some v2 ∧ Below w.heap.size w W from ⟨(hp.below h).cell 0, (hp.below h).cell 1, h⟩))
  have cHf := fun W (h : Below w.heap.size w W) => forkHeight_any p v1 v2 (RT.fork B1 B2).bytes.size (RT.fork B1 B2).high (RT.fork B1 B2).meas W (hp.below h)
  have mHf := forkHeight (.pointer (some ⟨p, 0, none⟩))
  have eHf := enterFH
  have aF := assertFork
  obtain ⟨ta, ra, fSa, fWa, fHa, rfl, mSa, mWa, mHa, eSa, eWa, eHa, cSa, cWa, cHa⟩ := n1.fns
  obtain ⟨tc, rc, fSc, fWc, fHc, rfl, mSc, mWc, mHc, eSc, eWc, eHc, cSc, cWc, cHc⟩ := n2.fns
  obtain ⟨tb, rb, fSb, fWb, fHb, rfl, mSb, mWb, mHb, eSb, eWb, eHb, cSb, cWb, cHb⟩ := ha.fns
  generalize (RT.fork B1 B2).high = hB at *
  have g0 : ¬ (1 : Int) < (A.high : Int) - hB := by omega
  have g1 : (A.high : Int) - hB < -1 := by omega
  have g2 : (B1.high : Int) ≤ (B2.high : Int) := by omega
  have g3 : IntKind.i64.wrap ((A.high : Int) - hB) = (A.high : Int) - hB := IntWalk.i64_in _ (by omega)
  clear he ha okA okB hsz h1 h2 hhA hhB hh1 hh2 hSA hSB hAs n1 n2 hp cSa cWa cSb cWb cSc cWc mSa mWa mSb mWb mSc mWc eSa eWa eSb eWb eSc eWc
  go_enter Tryd.func69, Tryd.ntmps69
  go_wp2_with (first
    | (with_reducible refine (cHb _ (by (repeat (first | (with_reducible exact Below.refl _ _) | (with_reducible assumption) | (with_reducible apply bl_alloc) | (with_reducible apply bl_iter) | (with_reducible apply bl_drew) | (with_reducible apply bl_drewN) | (with_reducible refine bl_set ?_ (by first | assumption | (simp; done) | omega | (simp; omega)) _) | (with_reducible refine bl_then ?_ (by with_reducible assumption)))))).mono ?_; clear cHb; rintro e w3 ⟨rfl, hb3⟩)
    | (go_at_call 129; with_reducible refine (cHf _ (by (repeat (first | (with_reducible exact Below.refl _ _) | (with_reducible assumption) | (with_reducible apply bl_alloc) | (with_reducible apply bl_iter) | (with_reducible apply bl_drew) | (with_reducible apply bl_drewN) | (with_reducible refine bl_set ?_ (by first | assumption | (simp; done) | omega | (simp; omega)) _) | (with_reducible refine bl_then ?_ (by with_reducible assumption)))))).mono ?_; clear cHf; rintro e w4 ⟨rfl, hb4⟩; have hbw : Below w.heap.size w w4.drew := by (repeat (first | (with_reducible exact Below.refl _ _) | (with_reducible assumption) | (with_reducible apply bl_alloc) | (with_reducible apply bl_iter) | (with_reducible apply bl_drew) | (with_reducible apply bl_drewN) | (with_reducible refine bl_set ?_ (by first | assumption | (simp; done) | omega | (simp; omega)) _) | (with_reducible refine bl_then ?_ (by with_reducible assumption))))))
  go_region_held3 (fun W => W.cell? ⟨p, 0, none⟩ = some (.iface ta ra) ∧ W.cell? ⟨p, 1, none⟩ = some (.iface tc rc) ∧ Below w.heap.size w W)
    (first | (with_reducible exact KC.out _ hbw6) | (with_reducible exact KC.out _ hbw5) | (with_reducible exact KC.out _ hbw))
    (first
    | (with_reducible refine (cHc _ (by (repeat (first | (with_reducible exact Below.refl _ _) | (with_reducible assumption) | (with_reducible apply bl_alloc) | (with_reducible apply bl_iter) | (with_reducible apply bl_drew) | (with_reducible apply bl_drewN) | (with_reducible refine bl_set ?_ (by first | assumption | (simp; done) | omega | (simp; omega)) _) | (with_reducible refine bl_then ?_ (by with_reducible assumption)))))).mono ?_; clear cHc; rintro e w5 ⟨rfl, hb5⟩; have hbw5 : Below w.heap.size w w5 := by (repeat (first | (with_reducible exact Below.refl _ _) | (with_reducible assumption) | (with_reducible apply bl_alloc) | (with_reducible apply bl_iter) | (with_reducible apply bl_drew) | (with_reducible apply bl_drewN) | (with_reducible refine bl_set ?_ (by first | assumption | (simp; done) | omega | (simp; omega)) _) | (with_reducible refine bl_then ?_ (by with_reducible assumption)))))
    | (with_reducible refine (cHa _ (by (repeat (first | (with_reducible exact Below.refl _ _) | (with_reducible assumption) | (with_reducible apply bl_alloc) | (with_reducible apply bl_iter) | (with_reducible apply bl_drew) | (with_reducible apply bl_drewN) | (with_reducible refine bl_set ?_ (by first | assumption | (simp; done) | omega | (simp; omega)) _) | (with_reducible refine bl_then ?_ (by with_reducible assumption)))))).mono ?_; clear cHa; rintro e w6 ⟨rfl, hb6⟩; have hbw6 : Below w.heap.size w w6 := by (repeat (first | (with_reducible exact Below.refl _ _) | (with_reducible assumption) | (with_reducible apply bl_alloc) | (with_reducible apply bl_iter) | (with_reducible apply bl_drew) | (with_reducible apply bl_drewN) | (with_reducible refine bl_set ?_ (by first | assumption | (simp; done) | omega | (simp; omega)) _) | (with_reducible refine bl_then ?_ (by with_reducible assumption))))))
  have hbx : Below w.heap.size w w6.drew := by (repeat (first | (with_reducible exact Below.refl _ _) | (with_reducible assumption) | (with_reducible apply bl_alloc) | (with_reducible apply bl_iter) | (with_reducible apply bl_drew) | (with_reducible apply bl_drewN) | (with_reducible refine bl_set ?_ (by first | assumption | (simp; done) | omega | (simp; omega)) _) | (with_reducible refine bl_then ?_ (by with_reducible assumption))))
  go_wp2
  go_region_held3 (fun W => W.cell? ⟨p, 0, none⟩ = some (.iface ta ra) ∧ W.cell? ⟨p, 1, none⟩ = some (.iface tc rc) ∧ Below w.heap.size w W)
    (first | (with_reducible exact KC.out _ hbw8) | (with_reducible exact KC.out _ hbw7) | (with_reducible exact KC.out _ hbx))
    (first
    | (go_at_call 71; refine (HP.out _ (by (repeat (first | (with_reducible exact Below.refl _ _) | (with_reducible assumption) | (with_reducible apply bl_alloc) | (with_reducible apply bl_iter) | (with_reducible apply bl_drew) | (with_reducible apply bl_drewN) | (with_reducible refine bl_set ?_ (by first | assumption | (simp; done) | omega | (simp; omega)) _) | (with_reducible refine bl_then ?_ (by with_reducible assumption)))))).mono ?_; clear HP; rintro e w7 ⟨v, ⟨rfl, hN⟩, hb7⟩; have HN := Lib.hid hN; clear hN; have hbw7 : Below w.heap.size w w7 := by (repeat (first | (with_reducible exact Below.refl _ _) | (with_reducible assumption) | (with_reducible apply bl_alloc) | (with_reducible apply bl_iter) | (with_reducible apply bl_drew) | (with_reducible apply bl_drewN) | (with_reducible refine bl_set ?_ (by first | assumption | (simp; done) | omega | (simp; omega)) _) | (with_reducible refine bl_then ?_ (by with_reducible assumption)))))
    | (go_at_call 71; refine (HQ.out _ _ (by (repeat (first | (with_reducible exact Below.refl _ _) | (with_reducible assumption) | (with_reducible apply bl_alloc) | (with_reducible apply bl_iter) | (with_reducible apply bl_drew) | (with_reducible apply bl_drewN) | (with_reducible refine bl_set ?_ (by first | assumption | (simp; done) | omega | (simp; omega)) _) | (with_reducible refine bl_then ?_ (by with_reducible assumption))))) HN.out).mono ?_; clear HQ; rintro e w8 ⟨v8, ⟨rfl, hN8⟩, hb8⟩; have HN8 := Lib.hid hN8; clear hN8; have hbw8 : Below w.heap.size w w8 := by (repeat (first | (with_reducible exact Below.refl _ _) | (with_reducible assumption) | (with_reducible apply bl_alloc) | (with_reducible apply bl_iter) | (with_reducible apply bl_drew) | (with_reducible apply bl_drewN) | (with_reducible refine bl_set ?_ (by first | assumption | (simp; done) | omega | (simp; omega)) _) | (with_reducible refine bl_then ?_ (by with_reducible assumption))))))
  go_wp2
  go_ret
  exact ⟨⟨_, rfl, HH.out _ _ HN8.out⟩, by (repeat (first | (with_reducible exact Below.refl _ _) | (with_reducible assumption) | (with_reducible apply bl_alloc) | (with_reducible apply bl_iter) | (with_reducible apply bl_drew) | (with_reducible apply bl_drewN) | (with_reducible refine bl_set ?_ (by first | assumption | (simp; done) | omega | (simp; omega)) _) | (with_reducible refine bl_then ?_ (by with_reducible assumption))))⟩
end Go.Proofs.YtcjplgcnjfinoaaDoor
