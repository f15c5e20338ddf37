/- Contract of rope.level: the inner grandchild is taken apart, on the right. -/
import Derived.Test.YtcjplgcnjfinoaaDoorRopeE
import Derived.Test.YtcjplgcnjfinoaaDoorRopeF
namespace Go.Proofs.YtcjplgcnjfinoaaDoor
open Go.RowKit Go.Shelf Go.Proofs.YtcjplgcnjfinoaaDoorW.PrintWords Go.Proofs.YtcjplgcnjfinoaaDoorW.PrintMore
attribute [local go_sem] max2_int min2_int max_two min_two
attribute [local go_sem ↓] Go.wp_at_zero Go.wp_at_succ

set_option maxRecDepth 100000 in
set_option maxHeartbeats 4000000 in
theorem level_right2 (va vb : Value) (A C D B2 : RT) (okA : A.ok) (okB : (RT.fork (.fork C D) B2).ok) (hsz : A.bytes.size + (RT.fork (.fork C D) B2).bytes.size ≤ 268435456) (h1 : A.high + 1 < (RT.fork (.fork C D) B2).high) (h2 : B2.high < (RT.fork C D).high) (w : World) (he : Env w) (ha : IsNode w va A) (hb : IsNode w vb (.fork (.fork C D) B2)) :
    Calls Tryd.prog 69 #[va, vb] w fun e w' => (∃ v, e = .returned v ∧ Holds w' v (A.bytes ++ (RT.fork (.fork C D) B2).bytes)) ∧ Below w.heap.size w w' := by
  have hSA : (RT.fork (.fork C D) B2).bytes.size = (RT.fork C D).bytes.size + B2.bytes.size := ByteArray.size_append
  have hSC : (RT.fork C D).bytes.size = C.bytes.size + D.bytes.size := ByteArray.size_append
  have hS1 : (RT.fork A C).bytes.size = A.bytes.size + C.bytes.size := ByteArray.size_append
  have hS2 : (RT.fork D B2).bytes.size = D.bytes.size + B2.bytes.size := ByteArray.size_append
  have hAs : A.bytes ++ (RT.fork (.fork C D) B2).bytes = (A.bytes ++ C.bytes) ++ (D.bytes ++ B2.bytes) := by
    show A.bytes ++ ((C.bytes ++ D.bytes) ++ B2.bytes) = _
    rw [ByteArray.append_assoc, ByteArray.append_assoc]
  rw [hAs]
  have hhB := (RT.fork (.fork C D) B2).high_le okB
  have hh1 := B2.high_le okB.2
  have hh2 := (RT.fork C D).high_le okB.1
  have hhA := A.high_le okA
  obtain ⟨p, v1, v2, rfl, hp, n1, n2⟩ := hb
  have n1' := n1
  obtain ⟨q, v3, v4, rfl, hq, n3, n4⟩ := n1
  have HP := Lib.hid (fun W (h : Below w.heap.size w W) => pair_any va v3 A C okA okB.1.1 (by omega) W (he.below h) (IsNode.below h A va ha) (IsNode.below h C v3 n3))
  have HP2 := Lib.hid (fun W (h : Below w.heap.size w W) => pair_any v4 v2 D B2 okB.1.2 okB.2 (by omega) W (he.below h) (IsNode.below h D v4 n4) (IsNode.below h B2 v2 n2))
  have HQ := Lib.hid (fun W v v' (h : Below w.heap.size w W) (hN : IsNode W v (.fork A C)) (hN' : IsNode W v' (.fork D B2)) => pair_any v v' (.fork A C) (.fork D B2) ⟨okA, okB.1.1⟩ ⟨okB.1.2, okB.2⟩ (by omega) W (he.below h) hN hN')
  have HH := Lib.hid (fun W v (h : IsNode W v (.fork (.fork A C) (.fork D B2))) => (show Holds W v ((A.bytes ++ C.bytes) ++ (D.bytes ++ B2.bytes)) from ⟨_, h, ⟨⟨okA, okB.1.1⟩, okB.1.2, okB.2⟩, rfl⟩))
  have KC := Lib.hid (fun W (h : Below w.heap.size w W) => (show W.cell? ⟨p, 0, none⟩ = some (.iface 125 (.pointer (some ⟨q, 0, none⟩))) ∧ W.cell? ⟨p, 1, none⟩ = some v2 ∧ W.cell? ⟨q, 0, none⟩ = some v3 ∧ W.cell? ⟨q, 1, none⟩ = some v4 ∧ Below w.heap.size w W from ⟨(hp.below h).cell 0, (hp.below h).cell 1, (hq.below h).cell 0, (hq.below h).cell 1, h⟩))
  have cHf := fun W (h : Below w.heap.size w W) => forkHeight_any p (.iface 125 (.pointer (some ⟨q, 0, none⟩))) v2 (RT.fork (.fork C D) B2).bytes.size (RT.fork (.fork C D) B2).high (RT.fork (.fork C D) B2).meas W (hp.below h)
  have cHc := fun W (h : Below w.heap.size w W) => forkHeight_any q v3 v4 (RT.fork C D).bytes.size (RT.fork C D).high (RT.fork C D).meas W (hq.below h)
  have mHf := forkHeight (.pointer (some ⟨p, 0, none⟩))
  have mHc := forkHeight (.pointer (some ⟨q, 0, none⟩))
  have eHf := enterFH
  have aF := assertFork
  obtain ⟨ta, ra, fSa, fWa, fHa, rfl, mSa, mWa, mHa, eSa, eWa, eHa, cSa, cWa, cHa⟩ := n2.fns
  obtain ⟨tb, rb, fSb, fWb, fHb, rfl, mSb, mWb, mHb, eSb, eWb, eHb, cSb, cWb, cHb⟩ := ha.fns
  obtain ⟨tc, rc, -, -, -, rfl, -, -, -, -, -, -, -, -, -⟩ := n3.fns
  obtain ⟨td, rd, -, -, -, rfl, -, -, -, -, -, -, -, -, -⟩ := n4.fns
  generalize (RT.fork (.fork C D) B2).high = hB at *
  generalize (RT.fork C D).high = hC at *
  have g0 : ¬ (1 : Int) < (A.high : Int) - hB := by omega
  have g1 : (A.high : Int) - hB < -1 := by omega
  have g2 : ¬ (hC : Int) ≤ (B2.high : Int) := by omega
  have g3 : IntKind.i64.wrap ((A.high : Int) - hB) = (A.high : Int) - hB := IntWalk.i64_in _ (by omega)
  clear he ha okA okB hsz h1 h2 hhA hhB hh1 hh2 hSA hSC hS1 hS2 hAs n1' n2 n3 n4 hp hq cSa cWa cSb cWb mSa mWa mSb mWb eSa eWa eSb eWb
  go_enter Tryd.func69, Tryd.ntmps69
  go_wp2_with (first
    | (with_reducible refine (cHb _ (by (repeat (first | (with_reducible exact Below.refl _ _) | (with_reducible assumption) | (with_reducible apply bl_alloc) | (with_reducible apply bl_iter) | (with_reducible apply bl_drew) | (with_reducible apply bl_drewN) | (with_reducible refine bl_set ?_ (by first | assumption | (simp; done) | omega | (simp; omega)) _) | (with_reducible refine bl_then ?_ (by with_reducible assumption)))))).mono ?_; clear cHb; rintro e w3 ⟨rfl, hb3⟩)
    | (go_at_call 129; with_reducible refine (cHf _ (by (repeat (first | (with_reducible exact Below.refl _ _) | (with_reducible assumption) | (with_reducible apply bl_alloc) | (with_reducible apply bl_iter) | (with_reducible apply bl_drew) | (with_reducible apply bl_drewN) | (with_reducible refine bl_set ?_ (by first | assumption | (simp; done) | omega | (simp; omega)) _) | (with_reducible refine bl_then ?_ (by with_reducible assumption)))))).mono ?_; clear cHf; rintro e w4 ⟨rfl, hb4⟩; have hbw : Below w.heap.size w w4.drew := by (repeat (first | (with_reducible exact Below.refl _ _) | (with_reducible assumption) | (with_reducible apply bl_alloc) | (with_reducible apply bl_iter) | (with_reducible apply bl_drew) | (with_reducible apply bl_drewN) | (with_reducible refine bl_set ?_ (by first | assumption | (simp; done) | omega | (simp; omega)) _) | (with_reducible refine bl_then ?_ (by with_reducible assumption))))))
  go_region_held3 (fun W => W.cell? ⟨p, 0, none⟩ = some (.iface 125 (.pointer (some ⟨q, 0, none⟩))) ∧ W.cell? ⟨p, 1, none⟩ = some (.iface ta ra) ∧ W.cell? ⟨q, 0, none⟩ = some (.iface tc rc) ∧ W.cell? ⟨q, 1, none⟩ = some (.iface td rd) ∧ Below w.heap.size w W)
    (first | (with_reducible exact KC.out _ hbw6) | (with_reducible exact KC.out _ hbw5) | (with_reducible exact KC.out _ hbw))
    (first
    | (with_reducible refine (cHa _ (by (repeat (first | (with_reducible exact Below.refl _ _) | (with_reducible assumption) | (with_reducible apply bl_alloc) | (with_reducible apply bl_iter) | (with_reducible apply bl_drew) | (with_reducible apply bl_drewN) | (with_reducible refine bl_set ?_ (by first | assumption | (simp; done) | omega | (simp; omega)) _) | (with_reducible refine bl_then ?_ (by with_reducible assumption)))))).mono ?_; clear cHa; rintro e w5 ⟨rfl, hb5⟩; have hbw5 : Below w.heap.size w w5 := by (repeat (first | (with_reducible exact Below.refl _ _) | (with_reducible assumption) | (with_reducible apply bl_alloc) | (with_reducible apply bl_iter) | (with_reducible apply bl_drew) | (with_reducible apply bl_drewN) | (with_reducible refine bl_set ?_ (by first | assumption | (simp; done) | omega | (simp; omega)) _) | (with_reducible refine bl_then ?_ (by with_reducible assumption)))))
    | (with_reducible refine (cHc _ (by (repeat (first | (with_reducible exact Below.refl _ _) | (with_reducible assumption) | (with_reducible apply bl_alloc) | (with_reducible apply bl_iter) | (with_reducible apply bl_drew) | (with_reducible apply bl_drewN) | (with_reducible refine bl_set ?_ (by first | assumption | (simp; done) | omega | (simp; omega)) _) | (with_reducible refine bl_then ?_ (by with_reducible assumption)))))).mono ?_; clear cHc; rintro e w6 ⟨rfl, hb6⟩; have hbw6 : Below w.heap.size w w6 := by (repeat (first | (with_reducible exact Below.refl _ _) | (with_reducible assumption) | (with_reducible apply bl_alloc) | (with_reducible apply bl_iter) | (with_reducible apply bl_drew) | (with_reducible apply bl_drewN) | (with_reducible refine bl_set ?_ (by first | assumption | (simp; done) | omega | (simp; omega)) _) | (with_reducible refine bl_then ?_ (by with_reducible assumption))))))
  have hbx : Below w.heap.size w w6.drew := by (repeat (first | (with_reducible exact Below.refl _ _) | (with_reducible assumption) | (with_reducible apply bl_alloc) | (with_reducible apply bl_iter) | (with_reducible apply bl_drew) | (with_reducible apply bl_drewN) | (with_reducible refine bl_set ?_ (by first | assumption | (simp; done) | omega | (simp; omega)) _) | (with_reducible refine bl_then ?_ (by with_reducible assumption))))
  obtain ⟨k0, k1, k2, k3, -⟩ := KC.out w6 (by (repeat (first | (with_reducible exact Below.refl _ _) | (with_reducible assumption) | (with_reducible apply bl_alloc) | (with_reducible apply bl_iter) | (with_reducible apply bl_drew) | (with_reducible apply bl_drewN) | (with_reducible refine bl_set ?_ (by first | assumption | (simp; done) | omega | (simp; omega)) _) | (with_reducible refine bl_then ?_ (by with_reducible assumption)))))
  go_wp2
  go_region_held3 (fun W => W.cell? ⟨p, 0, none⟩ = some (.iface 125 (.pointer (some ⟨q, 0, none⟩))) ∧ W.cell? ⟨p, 1, none⟩ = some (.iface ta ra) ∧ W.cell? ⟨q, 0, none⟩ = some (.iface tc rc) ∧ W.cell? ⟨q, 1, none⟩ = some (.iface td rd) ∧ Below w.heap.size w W)
    (first | (with_reducible exact KC.out _ hbw9) | (with_reducible exact KC.out _ hbw8) | (with_reducible exact KC.out _ hbw7) | (with_reducible exact KC.out _ hbx))
    (first
    | (go_at_call 71; refine (HP.out _ (by (repeat (first | (with_reducible exact Below.refl _ _) | (with_reducible assumption) | (with_reducible apply bl_alloc) | (with_reducible apply bl_iter) | (with_reducible apply bl_drew) | (with_reducible apply bl_drewN) | (with_reducible refine bl_set ?_ (by first | assumption | (simp; done) | omega | (simp; omega)) _) | (with_reducible refine bl_then ?_ (by with_reducible assumption)))))).mono ?_; clear HP; rintro e w7 ⟨v, ⟨rfl, hN⟩, hb7⟩; have HN := Lib.hid hN; clear hN; have hbw7 : Below w.heap.size w w7 := by (repeat (first | (with_reducible exact Below.refl _ _) | (with_reducible assumption) | (with_reducible apply bl_alloc) | (with_reducible apply bl_iter) | (with_reducible apply bl_drew) | (with_reducible apply bl_drewN) | (with_reducible refine bl_set ?_ (by first | assumption | (simp; done) | omega | (simp; omega)) _) | (with_reducible refine bl_then ?_ (by with_reducible assumption)))))
    | (go_at_call 71; refine (HP2.out _ (by (repeat (first | (with_reducible exact Below.refl _ _) | (with_reducible assumption) | (with_reducible apply bl_alloc) | (with_reducible apply bl_iter) | (with_reducible apply bl_drew) | (with_reducible apply bl_drewN) | (with_reducible refine bl_set ?_ (by first | assumption | (simp; done) | omega | (simp; omega)) _) | (with_reducible refine bl_then ?_ (by with_reducible assumption)))))).mono ?_; clear HP2; rintro e w8 ⟨v8, ⟨rfl, hN8⟩, hb8⟩; have HN8 := Lib.hid hN8; clear hN8; have HN7 := Lib.hid (IsNode.below hb8 _ _ HN.out); have hbw8 : Below w.heap.size w w8 := by (repeat (first | (with_reducible exact Below.refl _ _) | (with_reducible assumption) | (with_reducible apply bl_alloc) | (with_reducible apply bl_iter) | (with_reducible apply bl_drew) | (with_reducible apply bl_drewN) | (with_reducible refine bl_set ?_ (by first | assumption | (simp; done) | omega | (simp; omega)) _) | (with_reducible refine bl_then ?_ (by with_reducible assumption)))))
    | (go_at_call 71; refine (HQ.out _ _ _ (by (repeat (first | (with_reducible exact Below.refl _ _) | (with_reducible assumption) | (with_reducible apply bl_alloc) | (with_reducible apply bl_iter) | (with_reducible apply bl_drew) | (with_reducible apply bl_drewN) | (with_reducible refine bl_set ?_ (by first | assumption | (simp; done) | omega | (simp; omega)) _) | (with_reducible refine bl_then ?_ (by with_reducible assumption))))) HN7.out HN8.out).mono ?_; clear HQ; rintro e w9 ⟨v9, ⟨rfl, hN9⟩, hb9⟩; have HN9 := Lib.hid hN9; clear hN9; have hbw9 : Below w.heap.size w w9 := by (repeat (first | (with_reducible exact Below.refl _ _) | (with_reducible assumption) | (with_reducible apply bl_alloc) | (with_reducible apply bl_iter) | (with_reducible apply bl_drew) | (with_reducible apply bl_drewN) | (with_reducible refine bl_set ?_ (by first | assumption | (simp; done) | omega | (simp; omega)) _) | (with_reducible refine bl_then ?_ (by with_reducible assumption))))))
  all_goals go_wp2
  all_goals go_ret
  all_goals exact ⟨⟨_, rfl, HH.out _ _ HN9.out⟩, by (repeat (first | (with_reducible exact Below.refl _ _) | (with_reducible assumption) | (with_reducible apply bl_alloc) | (with_reducible apply bl_iter) | (with_reducible apply bl_drew) | (with_reducible apply bl_drewN) | (with_reducible refine bl_set ?_ (by first | assumption | (simp; done) | omega | (simp; omega)) _) | (with_reducible refine bl_then ?_ (by with_reducible assumption))))⟩

theorem level_any (va vb : Value) (A B : RT) (okA : A.ok) (okB : B.ok) (hsz : A.bytes.size + B.bytes.size ≤ 268435456) (w : World) (he : Env w) (ha : IsNode w va A) (hb : IsNode w vb B) :
    Calls Tryd.prog 69 #[va, vb] w fun e w' => (∃ v, e = .returned v ∧ Holds w' v (A.bytes ++ B.bytes)) ∧ Below w.heap.size w w' := by
  by_cases h1 : B.high + 1 < A.high
  · cases A with
    | tip s => exact absurd h1 (by have := B.high_pos; show ¬ B.high + 1 < 1; omega)
    | fork A1 A2 =>
      by_cases h2 : A2.high ≤ A1.high
      · exact level_left va vb A1 A2 B okA okB hsz h1 h2 w he ha hb
      · cases A2 with
        | tip s => exact absurd A1.high_pos (by show ¬ 1 ≤ A1.high; have : ¬ 1 ≤ A1.high := h2; exact this)
        | fork C D => exact level_left2 va vb A1 C D B okA okB hsz h1 (by omega) w he ha hb
  · by_cases h3 : A.high + 1 < B.high
    · cases B with
      | tip s => exact absurd h3 (by have := A.high_pos; show ¬ A.high + 1 < 1; omega)
      | fork B1 B2 =>
        by_cases h2 : B1.high ≤ B2.high
        · exact level_right va vb A B1 B2 okA okB hsz h3 h2 w he ha hb
        · cases B1 with
          | tip s => exact absurd B2.high_pos (by show ¬ 1 ≤ B2.high; have : ¬ 1 ≤ B2.high := h2; exact this)
          | fork C D => exact level_right2 va vb A C D B2 okA okB hsz h3 (by omega) w he ha hb
    · exact level_even va vb A B okA okB hsz (by omega) (by omega) w he ha hb
end Go.Proofs.YtcjplgcnjfinoaaDoor
