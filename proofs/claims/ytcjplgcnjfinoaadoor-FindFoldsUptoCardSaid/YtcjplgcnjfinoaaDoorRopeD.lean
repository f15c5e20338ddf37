/- Contract of rope.level. -/
import Derived.Test.YtcjplgcnjfinoaaDoorRopeC
namespace Go.Proofs.YtcjplgcnjfinoaaDoor
open Go.RowKit Go.Shelf Go.Proofs.YtcjplgcnjfinoaaDoorW.PrintWords Go.Proofs.YtcjplgcnjfinoaaDoorW.PrintMore
attribute [local go_sem] max2_int min2_int max_two min_two
attribute [local go_sem ↓] Go.wp_at_zero Go.wp_at_succ

/-- v is a node of a tree that holds the bytes s. -/
def Holds (W : World) (v : Value) (s : ByteArray) : Prop := ∃ T : RT, IsNode W v T ∧ T.ok ∧ T.bytes = s
theorem Holds.below {W W' : World} {v : Value} {s : ByteArray} (h : Holds W v s) (hb : Below W.heap.size W W') : Holds W' v s := by
  obtain ⟨T, h1, h2, h3⟩ := h
  exact ⟨T, IsNode.below hb T v h1, h2, h3⟩
theorem pairH {w : World} {va vb : Value} {A B : RT} (okA : A.ok) (okB : B.ok) (hsz : A.bytes.size + B.bytes.size ≤ 268435456) (he : Env w) (ha : IsNode w va A) (hb : IsNode w vb B) :
    Calls Tryd.prog 71 #[va, vb] w fun e w' => ∃ v, (e = .returned v ∧ IsNode w' v (.fork A B)) ∧ Below w.heap.size w w' := pair_any va vb A B okA okB hsz w he ha hb

set_option maxRecDepth 100000 in
set_option maxHeartbeats 2000000 in
theorem level_even (va vb : Value) (A B : RT) (okA : A.ok) (okB : B.ok) (hsz : A.bytes.size + B.bytes.size ≤ 268435456) (h1 : A.high ≤ B.high + 1) (h2 : B.high ≤ A.high + 1) (w : World) (he : Env w) (ha : IsNode w va A) (hb : IsNode w vb B) :
    Calls Tryd.prog 69 #[va, vb] w fun e w' => (∃ v, e = .returned v ∧ Holds w' v (A.bytes ++ B.bytes)) ∧ Below w.heap.size w w' := by
  have HP := Lib.hid (fun W (h : Below w.heap.size w W) => pair_any va vb A B okA okB hsz W (he.below h) (IsNode.below h A va ha) (IsNode.below h B vb hb))
  have HH := Lib.hid (fun W v (h : IsNode W v (.fork A B)) => (show Holds W v (A.bytes ++ B.bytes) from ⟨_, h, ⟨okA, okB⟩, rfl⟩))
  obtain ⟨ta, ra, fSa, fWa, fHa, rfl, mSa, mWa, mHa, eSa, eWa, eHa, cSa, cWa, cHa⟩ := ha.fns
  obtain ⟨tb, rb, fSb, fWb, fHb, rfl, mSb, mWb, mHb, eSb, eWb, eHb, cSb, cWb, cHb⟩ := hb.fns
  have hhA := A.high_le okA
  have hhB := B.high_le okB
  have g1 : ¬ (1 : Int) < (A.high : Int) - B.high := by omega
  have g2 : ¬ (A.high : Int) - B.high < -1 := by omega
  have g3 : IntKind.i64.wrap ((A.high : Int) - B.high) = (A.high : Int) - B.high := IntWalk.i64_in _ (by omega)
  clear he ha hb okA okB hsz h1 h2 hhA hhB cSa cWa cSb cWb mSa mWa mSb mWb eSa eWa eSb eWb
  go_enter Tryd.func69, Tryd.ntmps69
  go_wp2_with (first
    | (with_reducible refine (cHa _ (by (repeat (first | (with_reducible exact Below.refl _ _) | (with_reducible assumption) | (with_reducible apply bl_alloc) | (with_reducible apply bl_iter) | (with_reducible apply bl_drew) | (with_reducible apply bl_drewN) | (with_reducible refine bl_set ?_ (by first | assumption | (simp; done) | omega | (simp; omega)) _) | (with_reducible refine bl_then ?_ (by with_reducible assumption)))))).mono ?_; clear cHa; rintro e w3 ⟨rfl, hb3⟩)
    | (with_reducible refine (cHb _ (by (repeat (first | (with_reducible exact Below.refl _ _) | (with_reducible assumption) | (with_reducible apply bl_alloc) | (with_reducible apply bl_iter) | (with_reducible apply bl_drew) | (with_reducible apply bl_drewN) | (with_reducible refine bl_set ?_ (by first | assumption | (simp; done) | omega | (simp; omega)) _) | (with_reducible refine bl_then ?_ (by with_reducible assumption)))))).mono ?_; clear cHb; rintro e w4 ⟨rfl, hb4⟩)
    | (go_at_call 71; refine (HP.out _ (by (repeat (first | (with_reducible exact Below.refl _ _) | (with_reducible assumption) | (with_reducible apply bl_alloc) | (with_reducible apply bl_iter) | (with_reducible apply bl_drew) | (with_reducible apply bl_drewN) | (with_reducible refine bl_set ?_ (by first | assumption | (simp; done) | omega | (simp; omega)) _) | (with_reducible refine bl_then ?_ (by with_reducible assumption)))))).mono ?_; rintro e w7 ⟨v, ⟨rfl, hN⟩, hb7⟩; have HN := Lib.hid hN; clear hN))
  go_ret
  exact ⟨⟨_, rfl, HH.out _ _ HN.out⟩, by (repeat (first | (with_reducible exact Below.refl _ _) | (with_reducible assumption) | (with_reducible apply bl_alloc) | (with_reducible apply bl_iter) | (with_reducible apply bl_drew) | (with_reducible apply bl_drewN) | (with_reducible refine bl_set ?_ (by first | assumption | (simp; done) | omega | (simp; omega)) _) | (with_reducible refine bl_then ?_ (by with_reducible assumption))))⟩

set_option maxRecDepth 100000 in
set_option maxHeartbeats 4000000 in
theorem level_left (va vb : Value) (A1 A2 B : RT) (okA : (RT.fork A1 A2).ok) (okB : B.ok) (hsz : (RT.fork A1 A2).bytes.size + B.bytes.size ≤ 268435456) (h1 : B.high + 1 < (RT.fork A1 A2).high) (h2 : A2.high ≤ A1.high) (w : World) (he : Env w) (ha : IsNode w va (.fork A1 A2)) (hb : IsNode w vb B) :
    Calls Tryd.prog 69 #[va, vb] w fun e w' => (∃ v, e = .returned v ∧ Holds w' v ((RT.fork A1 A2).bytes ++ B.bytes)) ∧ Below w.heap.size w w' := by
  have hSA : (RT.fork A1 A2).bytes.size = A1.bytes.size + A2.bytes.size := ByteArray.size_append
  have hSB : (RT.fork A2 B).bytes.size = A2.bytes.size + B.bytes.size := ByteArray.size_append
  have hAs : (RT.fork A1 A2).bytes ++ B.bytes = A1.bytes ++ (A2.bytes ++ B.bytes) := ByteArray.append_assoc
  rw [hAs]
  have hhA := (RT.fork A1 A2).high_le okA
  have hh1 := A1.high_le okA.1
  have hh2 := A2.high_le okA.2
  have hhB := B.high_le okB
  obtain ⟨p, v1, v2, rfl, hp, n1, n2⟩ := ha
  have HP := Lib.hid (fun W (h : Below w.heap.size w W) => pair_any v2 vb A2 B okA.2 okB (by omega) W (he.below h) (IsNode.below h A2 v2 n2) (IsNode.below h B vb hb))
  have HQ := Lib.hid (fun W v (h : Below w.heap.size w W) (hN : IsNode W v (.fork A2 B)) => pair_any v1 v A1 (.fork A2 B) okA.1 ⟨okA.2, okB⟩ (by omega) W (he.below h) (IsNode.below h A1 v1 n1) hN)
  have HH := Lib.hid (fun W v (h : IsNode W v (.fork A1 (.fork A2 B))) => (show Holds W v (A1.bytes ++ (A2.bytes ++ B.bytes)) from ⟨_, h, ⟨okA.1, okA.2, okB⟩, rfl⟩))
  have c0 : w.cell? ⟨p, 0, none⟩ = some v1 := hp.cell 0
  have c1 : w.cell? ⟨p, 1, none⟩ = some v2 := hp.cell 1
  have KC := Lib.hid (fun W (h : Below w.heap.size w W) => (show W.cell? ⟨p, 0, none⟩ = some v1 ∧ W.cell? ⟨p, 1, none⟩ = some v2 ∧ Below w.heap.size w W from ⟨(hp.below h).cell 0, (hp.below h).cell 1, h⟩))
  have cHf := fun W (h : Below w.heap.size w W) => forkHeight_any p v1 v2 (RT.fork A1 A2).bytes.size (RT.fork A1 A2).high (RT.fork A1 A2).meas W (hp.below h)
  have mHf := forkHeight (.pointer (some ⟨p, 0, none⟩))
  have eHf := enterFH
  have aF := assertFork
  obtain ⟨ta, ra, fSa, fWa, fHa, rfl, mSa, mWa, mHa, eSa, eWa, eHa, cSa, cWa, cHa⟩ := n1.fns
  obtain ⟨tc, rc, fSc, fWc, fHc, rfl, mSc, mWc, mHc, eSc, eWc, eHc, cSc, cWc, cHc⟩ := n2.fns
  obtain ⟨tb, rb, fSb, fWb, fHb, rfl, mSb, mWb, mHb, eSb, eWb, eHb, cSb, cWb, cHb⟩ := hb.fns
  generalize (RT.fork A1 A2).high = hA at *
  have g1 : (1 : Int) < (hA : Int) - B.high := by omega
  have g2 : (A2.high : Int) ≤ (A1.high : Int) := by omega
  have g3 : IntKind.i64.wrap ((hA : Int) - B.high) = (hA : Int) - B.high := IntWalk.i64_in _ (by omega)
  clear he hb okA okB hsz h1 h2 hhA hhB hh1 hh2 hSA hSB hAs n1 n2 hp cSa cWa cSb cWb cSc cWc mSa mWa mSb mWb mSc mWc eSa eWa eSb eWb eSc eWc
  go_enter Tryd.func69, Tryd.ntmps69
  go_wp2_with (first
    | (go_at_call 129; with_reducible refine (cHf _ (by (repeat (first | (with_reducible exact Below.refl _ _) | (with_reducible assumption) | (with_reducible apply bl_alloc) | (with_reducible apply bl_iter) | (with_reducible apply bl_drew) | (with_reducible apply bl_drewN) | (with_reducible refine bl_set ?_ (by first | assumption | (simp; done) | omega | (simp; omega)) _) | (with_reducible refine bl_then ?_ (by with_reducible assumption)))))).mono ?_; clear cHf; rintro e w3 ⟨rfl, hb3⟩)
    | (with_reducible refine (cHb _ (by (repeat (first | (with_reducible exact Below.refl _ _) | (with_reducible assumption) | (with_reducible apply bl_alloc) | (with_reducible apply bl_iter) | (with_reducible apply bl_drew) | (with_reducible apply bl_drewN) | (with_reducible refine bl_set ?_ (by first | assumption | (simp; done) | omega | (simp; omega)) _) | (with_reducible refine bl_then ?_ (by with_reducible assumption)))))).mono ?_; clear cHb; rintro e w4 ⟨rfl, hb4⟩; have hbw : Below w.heap.size w w4.drew := by (repeat (first | (with_reducible exact Below.refl _ _) | (with_reducible assumption) | (with_reducible apply bl_alloc) | (with_reducible apply bl_iter) | (with_reducible apply bl_drew) | (with_reducible apply bl_drewN) | (with_reducible refine bl_set ?_ (by first | assumption | (simp; done) | omega | (simp; omega)) _) | (with_reducible refine bl_then ?_ (by with_reducible assumption))))))
  go_region_held3 (fun W => W.cell? ⟨p, 0, none⟩ = some (.iface ta ra) ∧ W.cell? ⟨p, 1, none⟩ = some (.iface tc rc) ∧ Below w.heap.size w W)
    (first | (with_reducible exact KC.out _ hbw6) | (with_reducible exact KC.out _ hbw5) | (with_reducible exact KC.out _ hbw))
    (first
    | (with_reducible refine (cHa _ (by (repeat (first | (with_reducible exact Below.refl _ _) | (with_reducible assumption) | (with_reducible apply bl_alloc) | (with_reducible apply bl_iter) | (with_reducible apply bl_drew) | (with_reducible apply bl_drewN) | (with_reducible refine bl_set ?_ (by first | assumption | (simp; done) | omega | (simp; omega)) _) | (with_reducible refine bl_then ?_ (by with_reducible assumption)))))).mono ?_; clear cHa; rintro e w5 ⟨rfl, hb5⟩; have hbw5 : Below w.heap.size w w5 := by (repeat (first | (with_reducible exact Below.refl _ _) | (with_reducible assumption) | (with_reducible apply bl_alloc) | (with_reducible apply bl_iter) | (with_reducible apply bl_drew) | (with_reducible apply bl_drewN) | (with_reducible refine bl_set ?_ (by first | assumption | (simp; done) | omega | (simp; omega)) _) | (with_reducible refine bl_then ?_ (by with_reducible assumption)))))
    | (with_reducible refine (cHc _ (by (repeat (first | (with_reducible exact Below.refl _ _) | (with_reducible assumption) | (with_reducible apply bl_alloc) | (with_reducible apply bl_iter) | (with_reducible apply bl_drew) | (with_reducible apply bl_drewN) | (with_reducible refine bl_set ?_ (by first | assumption | (simp; done) | omega | (simp; omega)) _) | (with_reducible refine bl_then ?_ (by with_reducible assumption)))))).mono ?_; clear cHc; rintro e w6 ⟨rfl, hb6⟩; have hbw6 : Below w.heap.size w w6 := by (repeat (first | (with_reducible exact Below.refl _ _) | (with_reducible assumption) | (with_reducible apply bl_alloc) | (with_reducible apply bl_iter) | (with_reducible apply bl_drew) | (with_reducible apply bl_drewN) | (with_reducible refine bl_set ?_ (by first | assumption | (simp; done) | omega | (simp; omega)) _) | (with_reducible refine bl_then ?_ (by with_reducible assumption))))))
  have hbx : Below w.heap.size w w6.drew := by (repeat (first | (with_reducible exact Below.refl _ _) | (with_reducible assumption) | (with_reducible apply bl_alloc) | (with_reducible apply bl_iter) | (with_reducible apply bl_drew) | (with_reducible apply bl_drewN) | (with_reducible refine bl_set ?_ (by first | assumption | (simp; done) | omega | (simp; omega)) _) | (with_reducible refine bl_then ?_ (by with_reducible assumption))))
  go_wp2
  go_region_held3 (fun W => W.cell? ⟨p, 0, none⟩ = some (.iface ta ra) ∧ W.cell? ⟨p, 1, none⟩ = some (.iface tc rc) ∧ Below w.heap.size w W)
    (first | (with_reducible exact KC.out _ hbw8) | (with_reducible exact KC.out _ hbw7) | (with_reducible exact KC.out _ hbx))
    (first
    | (go_at_call 71; refine (HP.out _ (by (repeat (first | (with_reducible exact Below.refl _ _) | (with_reducible assumption) | (with_reducible apply bl_alloc) | (with_reducible apply bl_iter) | (with_reducible apply bl_drew) | (with_reducible apply bl_drewN) | (with_reducible refine bl_set ?_ (by first | assumption | (simp; done) | omega | (simp; omega)) _) | (with_reducible refine bl_then ?_ (by with_reducible assumption)))))).mono ?_; clear HP; rintro e w7 ⟨v, ⟨rfl, hN⟩, hb7⟩; have HN := Lib.hid hN; clear hN; have hbw7 : Below w.heap.size w w7 := by (repeat (first | (with_reducible exact Below.refl _ _) | (with_reducible assumption) | (with_reducible apply bl_alloc) | (with_reducible apply bl_iter) | (with_reducible apply bl_drew) | (with_reducible apply bl_drewN) | (with_reducible refine bl_set ?_ (by first | assumption | (simp; done) | omega | (simp; omega)) _) | (with_reducible refine bl_then ?_ (by with_reducible assumption)))))
    | (go_at_call 71; refine (HQ.out _ _ (by (repeat (first | (with_reducible exact Below.refl _ _) | (with_reducible assumption) | (with_reducible apply bl_alloc) | (with_reducible apply bl_iter) | (with_reducible apply bl_drew) | (with_reducible apply bl_drewN) | (with_reducible refine bl_set ?_ (by first | assumption | (simp; done) | omega | (simp; omega)) _) | (with_reducible refine bl_then ?_ (by with_reducible assumption))))) HN.out).mono ?_; clear HQ; rintro e w8 ⟨v8, ⟨rfl, hN8⟩, hb8⟩; have HN8 := Lib.hid hN8; clear hN8; have hbw8 : Below w.heap.size w w8 := by (repeat (first | (with_reducible exact Below.refl _ _) | (with_reducible assumption) | (with_reducible apply bl_alloc) | (with_reducible apply bl_iter) | (with_reducible apply bl_drew) | (with_reducible apply bl_drewN) | (with_reducible refine bl_set ?_ (by first | assumption | (simp; done) | omega | (simp; omega)) _) | (with_reducible refine bl_then ?_ (by with_reducible assumption))))))
  go_wp2
  go_ret
  exact ⟨⟨_, rfl, HH.out _ _ HN8.out⟩, by (repeat (first | (with_reducible exact Below.refl _ _) | (with_reducible assumption) | (with_reducible apply bl_alloc) | (with_reducible apply bl_iter) | (with_reducible apply bl_drew) | (with_reducible apply bl_drewN) | (with_reducible refine bl_set ?_ (by first | assumption | (simp; done) | omega | (simp; omega)) _) | (with_reducible refine bl_then ?_ (by with_reducible assumption))))⟩
end Go.Proofs.YtcjplgcnjfinoaaDoor
