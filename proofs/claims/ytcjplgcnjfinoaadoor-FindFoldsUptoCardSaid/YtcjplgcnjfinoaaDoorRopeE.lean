/- Contract of rope.level: the inner grandchild is taken apart, on the left. -/
import Derived.Test.YtcjplgcnjfinoaaDoorRopeD
namespace Go.Proofs.YtcjplgcnjfinoaaDoor
open Go.RowKit Go.Shelf Go.Proofs.YtcjplgcnjfinoaaDoorW.PrintWords Go.Proofs.YtcjplgcnjfinoaaDoorW.PrintMore
attribute [local go_sem] max2_int min2_int max_two min_two
attribute [local go_sem ↓] Go.wp_at_zero Go.wp_at_succ

set_option maxRecDepth 100000 in
set_option maxHeartbeats 4000000 in
theorem level_left2 (va vb : Value) (A1 C D B : RT) (okA : (RT.fork A1 (.fork C D)).ok) (okB : B.ok) (hsz : (RT.fork A1 (.fork C D)).bytes.size + B.bytes.size ≤ 268435456) (h1 : B.high + 1 < (RT.fork A1 (.fork C D)).high) (h2 : A1.high < (RT.fork C D).high) (w : World) (he : Env w) (ha : IsNode w va (.fork A1 (.fork C D))) (hb : IsNode w vb B) :
    Calls Tryd.prog 69 #[va, vb] w fun e w' => (∃ v, e = .returned v ∧ Holds w' v ((RT.fork A1 (.fork C D)).bytes ++ B.bytes)) ∧ Below w.heap.size w w' := by
  have hSA : (RT.fork A1 (.fork C D)).bytes.size = A1.bytes.size + (RT.fork C D).bytes.size := ByteArray.size_append
  have hSC : (RT.fork C D).bytes.size = C.bytes.size + D.bytes.size := ByteArray.size_append
  have hS1 : (RT.fork A1 C).bytes.size = A1.bytes.size + C.bytes.size := ByteArray.size_append
  have hS2 : (RT.fork D B).bytes.size = D.bytes.size + B.bytes.size := ByteArray.size_append
  have hAs : (RT.fork A1 (.fork C D)).bytes ++ B.bytes = (A1.bytes ++ C.bytes) ++ (D.bytes ++ B.bytes) := by
    show (A1.bytes ++ (C.bytes ++ D.bytes)) ++ B.bytes = _
    rw [ByteArray.append_assoc, ByteArray.append_assoc, ByteArray.append_assoc]
  rw [hAs]
  have hhA := (RT.fork A1 (.fork C D)).high_le okA
  have hh1 := A1.high_le okA.1
  have hh2 := (RT.fork C D).high_le okA.2
  have hhB := B.high_le okB
  obtain ⟨p, v1, v2, rfl, hp, n1, n2⟩ := ha
  have n2' := n2
  obtain ⟨q, v3, v4, rfl, hq, n3, n4⟩ := n2
  have HP := Lib.hid (fun W (h : Below w.heap.size w W) => pair_any v1 v3 A1 C okA.1 okA.2.1 (by omega) W (he.below h) (IsNode.below h A1 v1 n1) (IsNode.below h C v3 n3))
  have HP2 := Lib.hid (fun W (h : Below w.heap.size w W) => pair_any v4 vb D B okA.2.2 okB (by omega) W (he.below h) (IsNode.below h D v4 n4) (IsNode.below h B vb hb))
  have HQ := Lib.hid (fun W v v' (h : Below w.heap.size w W) (hN : IsNode W v (.fork A1 C)) (hN' : IsNode W v' (.fork D B)) => pair_any v v' (.fork A1 C) (.fork D B) ⟨okA.1, okA.2.1⟩ ⟨okA.2.2, okB⟩ (by omega) W (he.below h) hN hN')
  have HH := Lib.hid (fun W v (h : IsNode W v (.fork (.fork A1 C) (.fork D B))) => (show Holds W v ((A1.bytes ++ C.bytes) ++ (D.bytes ++ B.bytes)) from ⟨_, h, ⟨⟨okA.1, okA.2.1⟩, okA.2.2, okB⟩, rfl⟩))
  have KC := Lib.hid (fun W (h : Below w.heap.size w W) => (show W.cell? ⟨p, 0, none⟩ = some v1 ∧ W.cell? ⟨p, 1, none⟩ = some (.iface 125 (.pointer (some ⟨q, 0, none⟩))) ∧ W.cell? ⟨q, 0, none⟩ = some v3 ∧ W.cell? ⟨q, 1, none⟩ = some v4 ∧ Below w.heap.size w W from ⟨(hp.below h).cell 0, (hp.below h).cell 1, (hq.below h).cell 0, (hq.below h).cell 1, h⟩))
  have cHf := fun W (h : Below w.heap.size w W) => forkHeight_any p v1 (.iface 125 (.pointer (some ⟨q, 0, none⟩))) (RT.fork A1 (.fork C D)).bytes.size (RT.fork A1 (.fork C D)).high (RT.fork A1 (.fork C D)).meas W (hp.below h)
  have cHc := fun W (h : Below w.heap.size w W) => forkHeight_any q v3 v4 (RT.fork C D).bytes.size (RT.fork C D).high (RT.fork C D).meas W (hq.below h)
  have mHf := forkHeight (.pointer (some ⟨p, 0, none⟩))
  have mHc := forkHeight (.pointer (some ⟨q, 0, none⟩))
  have eHf := enterFH
  have aF := assertFork
  obtain ⟨ta, ra, fSa, fWa, fHa, rfl, mSa, mWa, mHa, eSa, eWa, eHa, cSa, cWa, cHa⟩ := n1.fns
  obtain ⟨tb, rb, fSb, fWb, fHb, rfl, mSb, mWb, mHb, eSb, eWb, eHb, cSb, cWb, cHb⟩ := hb.fns
  obtain ⟨tc, rc, -, -, -, rfl, -, -, -, -, -, -, -, -, -⟩ := n3.fns
  obtain ⟨td, rd, -, -, -, rfl, -, -, -, -, -, -, -, -, -⟩ := n4.fns
  generalize (RT.fork A1 (.fork C D)).high = hA at *
  generalize (RT.fork C D).high = hC at *
  have g1 : (1 : Int) < (hA : Int) - B.high := by omega
  have g2 : ¬ (hC : Int) ≤ (A1.high : Int) := by omega
  have g3 : IntKind.i64.wrap ((hA : Int) - B.high) = (hA : Int) - B.high := IntWalk.i64_in _ (by omega)
  clear he hb okA okB hsz h1 h2 hhA hhB hh1 hh2 hSA hSC hS1 hS2 hAs n1 n2' n3 n4 hp hq cSa cWa cSb cWb mSa mWa mSb mWb eSa eWa eSb eWb
  go_enter Tryd.func69, Tryd.ntmps69
  go_wp2_with (first
    | (go_at_call 129; with_reducible refine (cHf _ (by (repeat (first | (with_reducible exact Below.refl _ _) | (with_reducible assumption) | (with_reducible apply bl_alloc) | (with_reducible apply bl_iter) | (with_reducible apply bl_drew) | (with_reducible apply bl_drewN) | (with_reducible refine bl_set ?_ (by first | assumption | (simp; done) | omega | (simp; omega)) _) | (with_reducible refine bl_then ?_ (by with_reducible assumption)))))).mono ?_; clear cHf; rintro e w3 ⟨rfl, hb3⟩)
    | (with_reducible refine (cHb _ (by (repeat (first | (with_reducible exact Below.refl _ _) | (with_reducible assumption) | (with_reducible apply bl_alloc) | (with_reducible apply bl_iter) | (with_reducible apply bl_drew) | (with_reducible apply bl_drewN) | (with_reducible refine bl_set ?_ (by first | assumption | (simp; done) | omega | (simp; omega)) _) | (with_reducible refine bl_then ?_ (by with_reducible assumption)))))).mono ?_; clear cHb; rintro e w4 ⟨rfl, hb4⟩; have hbw : Below w.heap.size w w4.drew := by (repeat (first | (with_reducible exact Below.refl _ _) | (with_reducible assumption) | (with_reducible apply bl_alloc) | (with_reducible apply bl_iter) | (with_reducible apply bl_drew) | (with_reducible apply bl_drewN) | (with_reducible refine bl_set ?_ (by first | assumption | (simp; done) | omega | (simp; omega)) _) | (with_reducible refine bl_then ?_ (by with_reducible assumption))))))
  go_region_held3 (fun W => W.cell? ⟨p, 0, none⟩ = some (.iface ta ra) ∧ W.cell? ⟨p, 1, none⟩ = some (.iface 125 (.pointer (some ⟨q, 0, none⟩))) ∧ W.cell? ⟨q, 0, none⟩ = some (.iface tc rc) ∧ W.cell? ⟨q, 1, none⟩ = some (.iface td rd) ∧ Below w.heap.size w W)
    (first | (with_reducible exact KC.out _ hbw6) | (with_reducible exact KC.out _ hbw5) | (with_reducible exact KC.out _ hbw))
    (first
    | (with_reducible refine (cHa _ (by (repeat (first | (with_reducible exact Below.refl _ _) | (with_reducible assumption) | (with_reducible apply bl_alloc) | (with_reducible apply bl_iter) | (with_reducible apply bl_drew) | (with_reducible apply bl_drewN) | (with_reducible refine bl_set ?_ (by first | assumption | (simp; done) | omega | (simp; omega)) _) | (with_reducible refine bl_then ?_ (by with_reducible assumption)))))).mono ?_; clear cHa; rintro e w5 ⟨rfl, hb5⟩; have hbw5 : Below w.heap.size w w5 := by (repeat (first | (with_reducible exact Below.refl _ _) | (with_reducible assumption) | (with_reducible apply bl_alloc) | (with_reducible apply bl_iter) | (with_reducible apply bl_drew) | (with_reducible apply bl_drewN) | (with_reducible refine bl_set ?_ (by first | assumption | (simp; done) | omega | (simp; omega)) _) | (with_reducible refine bl_then ?_ (by with_reducible assumption)))))
    | (with_reducible refine (cHc _ (by (repeat (first | (with_reducible exact Below.refl _ _) | (with_reducible assumption) | (with_reducible apply bl_alloc) | (with_reducible apply bl_iter) | (with_reducible apply bl_drew) | (with_reducible apply bl_drewN) | (with_reducible refine bl_set ?_ (by first | assumption | (simp; done) | omega | (simp; omega)) _) | (with_reducible refine bl_then ?_ (by with_reducible assumption)))))).mono ?_; clear cHc; rintro e w6 ⟨rfl, hb6⟩; have hbw6 : Below w.heap.size w w6 := by (repeat (first | (with_reducible exact Below.refl _ _) | (with_reducible assumption) | (with_reducible apply bl_alloc) | (with_reducible apply bl_iter) | (with_reducible apply bl_drew) | (with_reducible apply bl_drewN) | (with_reducible refine bl_set ?_ (by first | assumption | (simp; done) | omega | (simp; omega)) _) | (with_reducible refine bl_then ?_ (by with_reducible assumption))))))
  have hbx : Below w.heap.size w w6.drew := by (repeat (first | (with_reducible exact Below.refl _ _) | (with_reducible assumption) | (with_reducible apply bl_alloc) | (with_reducible apply bl_iter) | (with_reducible apply bl_drew) | (with_reducible apply bl_drewN) | (with_reducible refine bl_set ?_ (by first | assumption | (simp; done) | omega | (simp; omega)) _) | (with_reducible refine bl_then ?_ (by with_reducible assumption))))
  obtain ⟨k0, k1, k2, k3, -⟩ := KC.out w6 (by (repeat (first | (with_reducible exact Below.refl _ _) | (with_reducible assumption) | (with_reducible apply bl_alloc) | (with_reducible apply bl_iter) | (with_reducible apply bl_drew) | (with_reducible apply bl_drewN) | (with_reducible refine bl_set ?_ (by first | assumption | (simp; done) | omega | (simp; omega)) _) | (with_reducible refine bl_then ?_ (by with_reducible assumption)))))
  go_wp2
  go_region_held3 (fun W => W.cell? ⟨p, 0, none⟩ = some (.iface ta ra) ∧ W.cell? ⟨p, 1, none⟩ = some (.iface 125 (.pointer (some ⟨q, 0, none⟩))) ∧ W.cell? ⟨q, 0, none⟩ = some (.iface tc rc) ∧ W.cell? ⟨q, 1, none⟩ = some (.iface td rd) ∧ Below w.heap.size w W)
    (first | (with_reducible exact KC.out _ hbw9) | (with_reducible exact KC.out _ hbw8) | (with_reducible exact KC.out _ hbw7) | (with_reducible exact KC.out _ hbx))
    (first
    | (go_at_call 71; refine (HP.out _ (by (repeat (first | (with_reducible exact Below.refl _ _) | (with_reducible assumption) | (with_reducible apply bl_alloc) | (with_reducible apply bl_iter) | (with_reducible apply bl_drew) | (with_reducible apply bl_drewN) | (with_reducible refine bl_set ?_ (by first | assumption | (simp; done) | omega | (simp; omega)) _) | (with_reducible refine bl_then ?_ (by with_reducible assumption)))))).mono ?_; clear HP; rintro e w7 ⟨v, ⟨rfl, hN⟩, hb7⟩; have HN := Lib.hid hN; clear hN; have hbw7 : Below w.heap.size w w7 := by (repeat (first | (with_reducible exact Below.refl _ _) | (with_reducible assumption) | (with_reducible apply bl_alloc) | (with_reducible apply bl_iter) | (with_reducible apply bl_drew) | (with_reducible apply bl_drewN) | (with_reducible refine bl_set ?_ (by first | assumption | (simp; done) | omega | (simp; omega)) _) | (with_reducible refine bl_then ?_ (by with_reducible assumption)))))
    | (go_at_call 71; refine (HP2.out _ (by (repeat (first | (with_reducible exact Below.refl _ _) | (with_reducible assumption) | (with_reducible apply bl_alloc) | (with_reducible apply bl_iter) | (with_reducible apply bl_drew) | (with_reducible apply bl_drewN) | (with_reducible refine bl_set ?_ (by first | assumption | (simp; done) | omega | (simp; omega)) _) | (with_reducible refine bl_then ?_ (by with_reducible assumption)))))).mono ?_; clear HP2; rintro e w8 ⟨v8, ⟨rfl, hN8⟩, hb8⟩; have HN8 := Lib.hid hN8; clear hN8; have HN7 := Lib.hid (IsNode.below hb8 _ _ HN.out); have hbw8 : Below w.heap.size w w8 := by (repeat (first | (with_reducible exact Below.refl _ _) | (with_reducible assumption) | (with_reducible apply bl_alloc) | (with_reducible apply bl_iter) | (with_reducible apply bl_drew) | (with_reducible apply bl_drewN) | (with_reducible refine bl_set ?_ (by first | assumption | (simp; done) | omega | (simp; omega)) _) | (with_reducible refine bl_then ?_ (by with_reducible assumption)))))
    | (go_at_call 71; refine (HQ.out _ _ _ (by (repeat (first | (with_reducible exact Below.refl _ _) | (with_reducible assumption) | (with_reducible apply bl_alloc) | (with_reducible apply bl_iter) | (with_reducible apply bl_drew) | (with_reducible apply bl_drewN) | (with_reducible refine bl_set ?_ (by first | assumption | (simp; done) | omega | (simp; omega)) _) | (with_reducible refine bl_then ?_ (by with_reducible assumption))))) HN7.out HN8.out).mono ?_; clear HQ; rintro e w9 ⟨v9, ⟨rfl, hN9⟩, hb9⟩; have HN9 := Lib.hid hN9; clear hN9; have hbw9 : Below w.heap.size w w9 := by (repeat (first | (with_reducible exact Below.refl _ _) | (with_reducible assumption) | (with_reducible apply bl_alloc) | (with_reducible apply bl_iter) | (with_reducible apply bl_drew) | (with_reducible apply bl_drewN) | (with_reducible refine bl_set ?_ (by first | assumption | (simp; done) | omega | (simp; omega)) _) | (with_reducible refine bl_then ?_ (by with_reducible assumption))))))
  all_goals go_wp2
  all_goals go_ret
  all_goals exact ⟨⟨_, rfl, HH.out _ _ HN9.out⟩, by (repeat (first | (with_reducible exact Below.refl _ _) | (with_reducible assumption) | (with_reducible apply bl_alloc) | (with_reducible apply bl_iter) | (with_reducible apply bl_drew) | (with_reducible apply bl_drewN) | (with_reducible refine bl_set ?_ (by first | assumption | (simp; done) | omega | (simp; omega)) _) | (with_reducible refine bl_then ?_ (by with_reducible assumption))))⟩
end Go.Proofs.YtcjplgcnjfinoaaDoor
