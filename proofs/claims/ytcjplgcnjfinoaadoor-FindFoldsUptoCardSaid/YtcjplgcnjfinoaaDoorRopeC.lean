/- Contract of rope.pair, exact. -/
import Derived.Test.YtcjplgcnjfinoaaDoorRopeB
import Derived.Test.YtcjplgcnjfinoaaDoorWeldH
namespace Go.Proofs.YtcjplgcnjfinoaaDoor
open Go.RowKit Go.Shelf Go.Proofs.YtcjplgcnjfinoaaDoorW.PrintWords Go.Proofs.YtcjplgcnjfinoaaDoorW.PrintMore
attribute [local go_sem] max2_int min2_int max_two min_two

set_option maxRecDepth 100000 in
set_option maxHeartbeats 2000000 in
theorem pair_any (va vb : Value) (A B : RT) (okA : A.ok) (okB : B.ok) (hsz : A.bytes.size + B.bytes.size ≤ 268435456) (w : World) (he : Env w) (ha : IsNode w va A) (hb : IsNode w vb B) :
    Calls Tryd.prog 71 #[va, vb] w fun e w' => ∃ v, (e = .returned v ∧ IsNode w' v (.fork A B)) ∧ Below w.heap.size w w' := by
  obtain ⟨ta, ra, fSa, fWa, fHa, rfl, mSa, mWa, mHa, eSa, eWa, eHa, cSa, cWa, cHa⟩ := ha.fns
  obtain ⟨tb, rb, fSb, fWb, fHb, rfl, mSb, mWb, mHb, eSb, eWb, eHb, cSb, cWb, cHb⟩ := hb.fns
  have HE := Lib.hid he
  have HA := Lib.hid ha
  have HB := Lib.hid hb
  have hJ := fun w he => ropeBoth_any A.meas B.meas (A.meas_near okA) (B.meas_near okB) w he
  have hsA : A.bytes.size ≤ 268435456 := by omega
  have hsB : B.bytes.size ≤ 268435456 := by omega
  have hhA := A.high_le okA
  have hhB := B.high_le okB
  have hS : (RT.fork A B).bytes.size = A.bytes.size + B.bytes.size := ByteArray.size_append
  have hH : (RT.fork A B).high = 1 + max A.high B.high := rfl
  have hM : (RT.fork A B).meas = (joinE A.meas B.meas).1 := rfl
  have hN := fun W' p (h1 : Blk W' p (forkC (.iface ta ra) (.iface tb rb) (RT.fork A B).bytes.size (RT.fork A B).high (RT.fork A B).meas) 131) (h2 : Below w.heap.size w W') => (show IsNode W' (.iface 125 (.pointer (some ⟨p, 0, none⟩))) (.fork A B) from ⟨p, _, _, rfl, h1, IsNode.below h2 A _ ha, IsNode.below h2 B _ hb⟩)
  rw [hS, hH, hM] at hN
  have hmax : ∃ h : Nat, max A.high B.high = h ∧ (if (A.high : Int) < B.high then (B.high : Int) else A.high) = h ∧ h ≤ 268435456 := ⟨_, rfl, by split <;> omega, by omega⟩
  obtain ⟨h, e1, e2, h3⟩ := hmax
  rw [e1] at hN
  have HM := Lib.hid e1
  clear he ha hb hS hH hM hsz okA okB e1 e2
  generalize (joinE A.meas B.meas).1 = m at *
  generalize A.bytes.size = nA at *
  generalize B.bytes.size = nB at *
  generalize A.high = hA at *
  generalize B.high = hB at *
  generalize A.meas = mA at *
  generalize B.meas = mB at *
  have HN := Lib.hid (show ∀ W' p (x y : Int), x = (nA + nB : Nat) → y = (1 + h : Nat) → Blk W' p #[.iface ta ra, .iface tb rb, .int .i64 x, .int .i64 y, .int .i64 m.b, .int .i64 m.r, .int .i64 m.u, .int .i64 m.e, .string m.hd, .string m.tl] 131 → Below w.heap.size w W' → IsNode W' (.iface 125 (.pointer (some ⟨p, 0, none⟩))) (.fork A B) from fun W' p x y hx hy h1 h2 => hN W' p (by rw [hx, hy] at h1; exact h1) h2)
  clear hN
  go_enter Tryd.func71, Tryd.ntmps71
  go_wp2_with (first
    | (with_reducible refine (cSa _ (by (repeat (first | (with_reducible exact Below.refl _ _) | (with_reducible assumption) | (with_reducible apply bl_alloc) | (with_reducible apply bl_iter) | (with_reducible apply bl_drew) | (with_reducible apply bl_drewN) | (with_reducible refine bl_set ?_ (by first | assumption | (simp; done) | omega | (simp; omega)) _) | (with_reducible refine bl_then ?_ (by with_reducible assumption)))))).mono ?_; clear cSa; rintro e w1 ⟨rfl, hb1⟩)
    | (with_reducible refine (cSb _ (by (repeat (first | (with_reducible exact Below.refl _ _) | (with_reducible assumption) | (with_reducible apply bl_alloc) | (with_reducible apply bl_iter) | (with_reducible apply bl_drew) | (with_reducible apply bl_drewN) | (with_reducible refine bl_set ?_ (by first | assumption | (simp; done) | omega | (simp; omega)) _) | (with_reducible refine bl_then ?_ (by with_reducible assumption)))))).mono ?_; clear cSb; rintro e w2 ⟨rfl, hb2⟩)
    | (with_reducible refine (cHa _ (by (repeat (first | (with_reducible exact Below.refl _ _) | (with_reducible assumption) | (with_reducible apply bl_alloc) | (with_reducible apply bl_iter) | (with_reducible apply bl_drew) | (with_reducible apply bl_drewN) | (with_reducible refine bl_set ?_ (by first | assumption | (simp; done) | omega | (simp; omega)) _) | (with_reducible refine bl_then ?_ (by with_reducible assumption)))))).mono ?_; clear cHa; rintro e w3 ⟨rfl, hb3⟩)
    | (with_reducible refine (cHb _ (by (repeat (first | (with_reducible exact Below.refl _ _) | (with_reducible assumption) | (with_reducible apply bl_alloc) | (with_reducible apply bl_iter) | (with_reducible apply bl_drew) | (with_reducible apply bl_drewN) | (with_reducible refine bl_set ?_ (by first | assumption | (simp; done) | omega | (simp; omega)) _) | (with_reducible refine bl_then ?_ (by with_reducible assumption)))))).mono ?_; clear cHb; rintro e w4 ⟨rfl, hb4⟩)
    | (with_reducible refine (cWa _ (by (repeat (first | (with_reducible exact Below.refl _ _) | (with_reducible assumption) | (with_reducible apply bl_alloc) | (with_reducible apply bl_iter) | (with_reducible apply bl_drew) | (with_reducible apply bl_drewN) | (with_reducible refine bl_set ?_ (by first | assumption | (simp; done) | omega | (simp; omega)) _) | (with_reducible refine bl_then ?_ (by with_reducible assumption)))))).mono ?_; clear cWa; rintro e w5 ⟨rfl, hb5⟩)
    | (with_reducible refine (cWb _ (by (repeat (first | (with_reducible exact Below.refl _ _) | (with_reducible assumption) | (with_reducible apply bl_alloc) | (with_reducible apply bl_iter) | (with_reducible apply bl_drew) | (with_reducible apply bl_drewN) | (with_reducible refine bl_set ?_ (by first | assumption | (simp; done) | omega | (simp; omega)) _) | (with_reducible refine bl_then ?_ (by with_reducible assumption)))))).mono ?_; clear cWb; rintro e w6 ⟨rfl, hb6⟩)
    | (go_at_call 80; refine (hJ _ (HE.out.below (by (repeat (first | (with_reducible exact Below.refl _ _) | (with_reducible assumption) | (with_reducible apply bl_alloc) | (with_reducible apply bl_iter) | (with_reducible apply bl_drew) | (with_reducible apply bl_drewN) | (with_reducible refine bl_set ?_ (by first | assumption | (simp; done) | omega | (simp; omega)) _) | (with_reducible refine bl_then ?_ (by with_reducible assumption))))))).mono ?_; clear hJ; rintro e w7 ⟨rfl, hb7⟩))
  all_goals go_ret
  all_goals exact ⟨⟨_, rfl, HN.out _ _ _ _ (by omega) (by have := HM.out; omega) (Blk.new _ _ _) (by (repeat (first | (with_reducible exact Below.refl _ _) | (with_reducible assumption) | (with_reducible apply bl_alloc) | (with_reducible apply bl_iter) | (with_reducible apply bl_drew) | (with_reducible apply bl_drewN) | (with_reducible refine bl_set ?_ (by first | assumption | (simp; done) | omega | (simp; omega)) _) | (with_reducible refine bl_then ?_ (by with_reducible assumption)))))⟩, by (repeat (first | (with_reducible exact Below.refl _ _) | (with_reducible assumption) | (with_reducible apply bl_alloc) | (with_reducible apply bl_iter) | (with_reducible apply bl_drew) | (with_reducible apply bl_drewN) | (with_reducible refine bl_set ?_ (by first | assumption | (simp; done) | omega | (simp; omega)) _) | (with_reducible refine bl_then ?_ (by with_reducible assumption))))⟩
end Go.Proofs.YtcjplgcnjfinoaaDoor
