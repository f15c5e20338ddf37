/- Contracts of (*rope.Rope).Len and place, and rope.Join. Contracts of rope.grown, leaf.Cut and rope.New. Contract of leaf.Cut: leaves of a text. Contract of rope.New. -/
import Derived.Test.YtcjplgcnjfinoaaDoorRopeI
namespace Go.Proofs.YtcjplgcnjfinoaaDoor
open Go.RowKit Go.Shelf Go.Proofs.YtcjplgcnjfinoaaDoorW.PrintWords Go.Proofs.YtcjplgcnjfinoaaDoorW.PrintMore
attribute [local go_sem] max2_int min2_int max_two min_two
attribute [local go_sem ↓] Go.wp_at_zero Go.wp_at_succ

/-- A rope with the bytes s lies at r. -/
def RopeAt (W : World) (r : Nat) (s : ByteArray) : Prop := ∃ v, Blk W r #[v] 108 ∧ Top W v s
theorem RopeAt.below {W W' : World} {r : Nat} {s : ByteArray} (h : RopeAt W r s) (hb : Below W.heap.size W W') : RopeAt W' r s := by
  obtain ⟨v, h1, h2⟩ := h
  exact ⟨v, h1.below hb, h2.below hb⟩

theorem Top.pos {W : World} {v : Value} {s : ByteArray} (h : Top W v s) (hs : ¬ s.size = 0) : ∃ t rv, v = .iface t rv := by
  obtain ⟨-, rfl⟩ | ⟨T, h2, -, rfl⟩ := h
  · exact absurd rfl hs
  · obtain ⟨ta, ra, -, -, -, rfl, -⟩ := h2.fns
    exact ⟨_, _, rfl⟩
theorem Top.zero {W : World} {v : Value} {s : ByteArray} (h : Top W v s) (hs : s.size = 0) : v = .nilIface := by
  obtain ⟨rfl, rfl⟩ | ⟨T, h2, h3, rfl⟩ := h
  · rfl
  · have := T.size_pos h3
    omega

set_option maxRecDepth 100000 in
theorem Len_any (r : Nat) (s : ByteArray) (w : World) (h : RopeAt w r s) :
    Calls Tryd.prog 53 #[.pointer (some ⟨r, 0, none⟩)] w fun e w' => e = .returned (.int .i64 s.size) ∧ Below w.heap.size w w' := by
  obtain ⟨v, h1, ⟨rfl, rfl⟩ | ⟨T, h2, -, rfl⟩⟩ := h
  · have c0 : w.cell? ⟨r, 0, none⟩ = some .nilIface := h1.cell 0
    go_enter Tryd.func53, Tryd.ntmps53
    go_wp2
    go_ret
    exact ⟨rfl, by (repeat (first | (with_reducible exact Below.refl _ _) | (with_reducible assumption) | (with_reducible apply bl_alloc) | (with_reducible apply bl_iter) | (with_reducible apply bl_drew) | (with_reducible apply bl_drewN) | (with_reducible refine bl_set ?_ (by first | assumption | (simp; done) | omega | (simp; omega)) _) | (with_reducible refine bl_then ?_ (by with_reducible assumption))))⟩
  · obtain ⟨ta, ra, fSa, fWa, fHa, rfl, mSa, mWa, mHa, eSa, eWa, eHa, cSa, cWa, cHa⟩ := h2.fns
    have c0 : w.cell? ⟨r, 0, none⟩ = some (.iface ta ra) := h1.cell 0
    clear h1 h2 mWa mHa eWa eHa cWa cHa
    go_enter Tryd.func53, Tryd.ntmps53
    go_wp2_with (with_reducible refine (cSa _ (by (repeat (first | (with_reducible exact Below.refl _ _) | (with_reducible assumption) | (with_reducible apply bl_alloc) | (with_reducible apply bl_iter) | (with_reducible apply bl_drew) | (with_reducible apply bl_drewN) | (with_reducible refine bl_set ?_ (by first | assumption | (simp; done) | omega | (simp; omega)) _) | (with_reducible refine bl_then ?_ (by with_reducible assumption)))))).mono ?_; clear cSa; rintro e w3 ⟨rfl, hb3⟩)
    go_ret
    exact ⟨rfl, by (repeat (first | (with_reducible exact Below.refl _ _) | (with_reducible assumption) | (with_reducible apply bl_alloc) | (with_reducible apply bl_iter) | (with_reducible apply bl_drew) | (with_reducible apply bl_drewN) | (with_reducible refine bl_set ?_ (by first | assumption | (simp; done) | omega | (simp; omega)) _) | (with_reducible refine bl_then ?_ (by with_reducible assumption))))⟩
set_option maxRecDepth 100000 in
theorem place_any (r : Nat) (s : ByteArray) (n : Nat) (hn : n ≤ s.size) (w : World) (h : RopeAt w r s) :
    Calls Tryd.prog 43 #[.pointer (some ⟨r, 0, none⟩), .int .i64 n] w fun e w' => e = .returned (.int .i64 0) ∧ Below w.heap.size w w' := by
  have HL := Lib.hid (Len_any r s w h)
  have h1 : ¬ (s.size : Int) < n := by omega
  have h2 : ¬ (n : Int) < 0 := by omega
  have h3 : ¬ s.size < n := by omega
  clear h
  go_enter Tryd.func43, Tryd.ntmps43
  go_wp2_with (go_at_call 53; refine HL.out.mono ?_; rintro e w3 ⟨rfl, hb3⟩)
  go_ret
  exact ⟨rfl, by (repeat (first | (with_reducible exact Below.refl _ _) | (with_reducible assumption) | (with_reducible apply bl_alloc) | (with_reducible apply bl_iter) | (with_reducible apply bl_drew) | (with_reducible apply bl_drewN) | (with_reducible refine bl_set ?_ (by first | assumption | (simp; done) | omega | (simp; omega)) _) | (with_reducible refine bl_then ?_ (by with_reducible assumption))))⟩

set_option maxRecDepth 100000 in
set_option maxHeartbeats 2000000 in
theorem ropeJoin_any (r q : Nat) (s t : ByteArray) (hsz : s.size + t.size ≤ 268435456) (w : World) (he : Env w) (h : RopeAt w r s) (k : RopeAt w q t) :
    Calls Tryd.prog 33 #[.pointer (some ⟨r, 0, none⟩), .pointer (some ⟨q, 0, none⟩)] w fun e w' => (∃ p, e = .returned (.tuple #[.pointer (some ⟨p, 0, none⟩), .int .i64 0]) ∧ w.heap.size ≤ p ∧ RopeAt w' p (s ++ t)) ∧ Below w.heap.size w w' := by
  have HL := Lib.hid (fun W (hb : Below w.heap.size w W) => Len_any r s W (h.below hb))
  have HM := Lib.hid (fun W (hb : Below w.heap.size w W) => Len_any q t W (k.below hb))
  obtain ⟨v, b1, t1⟩ := h
  obtain ⟨u, b2, t2⟩ := k
  have HJ := Lib.hid (fun W (hb : Below w.heap.size w W) => join_any v u s t hsz W (he.below hb) (t1.below hb) (t2.below hb))
  have KC := Lib.hid (fun W (h : Below w.heap.size w W) => (show W.cell? ⟨r, 0, none⟩ = some v ∧ W.cell? ⟨q, 0, none⟩ = some u ∧ Below w.heap.size w W from ⟨(b1.below h).cell 0, (b2.below h).cell 0, h⟩))
  have g1 : IntKind.i64.wrap ((s.size : Int) + t.size) = (s.size : Int) + t.size := IntWalk.i64_in _ (by omega)
  have g2 : ¬ (268435456 : Int) < (s.size : Int) + t.size := by omega
  clear he b1 t1 b2 t2
  by_cases h0 : (s ++ t).size = 0
  · go_enter Tryd.func33, Tryd.ntmps33
    go_wp2_with (first
      | (go_at_call 53; refine (HL.out _ (by (repeat (first | (with_reducible exact Below.refl _ _) | (with_reducible assumption) | (with_reducible apply bl_alloc) | (with_reducible apply bl_iter) | (with_reducible apply bl_drew) | (with_reducible apply bl_drewN) | (with_reducible refine bl_set ?_ (by first | assumption | (simp; done) | omega | (simp; omega)) _) | (with_reducible refine bl_then ?_ (by with_reducible assumption)))))).mono ?_; clear HL; rintro e w3 ⟨rfl, hb3⟩)
      | (go_at_call 53; refine (HM.out _ (by (repeat (first | (with_reducible exact Below.refl _ _) | (with_reducible assumption) | (with_reducible apply bl_alloc) | (with_reducible apply bl_iter) | (with_reducible apply bl_drew) | (with_reducible apply bl_drewN) | (with_reducible refine bl_set ?_ (by first | assumption | (simp; done) | omega | (simp; omega)) _) | (with_reducible refine bl_then ?_ (by with_reducible assumption)))))).mono ?_; clear HM; rintro e w4 ⟨rfl, hb4⟩; have hbw : Below w.heap.size w w4.drew := by (repeat (first | (with_reducible exact Below.refl _ _) | (with_reducible assumption) | (with_reducible apply bl_alloc) | (with_reducible apply bl_iter) | (with_reducible apply bl_drew) | (with_reducible apply bl_drewN) | (with_reducible refine bl_set ?_ (by first | assumption | (simp; done) | omega | (simp; omega)) _) | (with_reducible refine bl_then ?_ (by with_reducible assumption))))))
    go_region_held3 (fun W => W.cell? ⟨r, 0, none⟩ = some v ∧ W.cell? ⟨q, 0, none⟩ = some u ∧ Below w.heap.size w W)
      (first | (with_reducible exact KC.out _ (bl_alloc hbw5 _)) | (with_reducible exact KC.out _ hbw5) | (with_reducible exact KC.out _ hbw))
      ((go_at_call 54; refine (HJ.out _ (by (repeat (first | (with_reducible exact Below.refl _ _) | (with_reducible assumption) | (with_reducible apply bl_alloc) | (with_reducible apply bl_iter) | (with_reducible apply bl_drew) | (with_reducible apply bl_drewN) | (with_reducible refine bl_set ?_ (by first | assumption | (simp; done) | omega | (simp; omega)) _) | (with_reducible refine bl_then ?_ (by with_reducible assumption)))))).mono ?_; clear HJ; rintro e w5 ⟨⟨x, rfl, hN⟩, hb5⟩; obtain rfl := hN.zero h0; have HN := Lib.hid hN; clear hN; have hbw5 : Below w.heap.size w w5 := by (repeat (first | (with_reducible exact Below.refl _ _) | (with_reducible assumption) | (with_reducible apply bl_alloc) | (with_reducible apply bl_iter) | (with_reducible apply bl_drew) | (with_reducible apply bl_drewN) | (with_reducible refine bl_set ?_ (by first | assumption | (simp; done) | omega | (simp; omega)) _) | (with_reducible refine bl_then ?_ (by with_reducible assumption))))))
    go_wp2
    have hz := hbw5.size
    all_goals go_ret2
    exact ⟨⟨_, rfl, by omega, _, Blk.new _ _ _, HN.out.below (by (repeat (first | (with_reducible exact Below.refl _ _) | (with_reducible assumption) | (with_reducible apply bl_alloc) | (with_reducible apply bl_iter) | (with_reducible apply bl_drew) | (with_reducible apply bl_drewN) | (with_reducible refine bl_set ?_ (by first | assumption | (simp; done) | omega | (simp; omega)) _) | (with_reducible refine bl_then ?_ (by with_reducible assumption)))))⟩, by (repeat (first | (with_reducible exact Below.refl _ _) | (with_reducible assumption) | (with_reducible apply bl_alloc) | (with_reducible apply bl_iter) | (with_reducible apply bl_drew) | (with_reducible apply bl_drewN) | (with_reducible refine bl_set ?_ (by first | assumption | (simp; done) | omega | (simp; omega)) _) | (with_reducible refine bl_then ?_ (by with_reducible assumption))))⟩
  · go_enter Tryd.func33, Tryd.ntmps33
    go_wp2_with (first
      | (go_at_call 53; refine (HL.out _ (by (repeat (first | (with_reducible exact Below.refl _ _) | (with_reducible assumption) | (with_reducible apply bl_alloc) | (with_reducible apply bl_iter) | (with_reducible apply bl_drew) | (with_reducible apply bl_drewN) | (with_reducible refine bl_set ?_ (by first | assumption | (simp; done) | omega | (simp; omega)) _) | (with_reducible refine bl_then ?_ (by with_reducible assumption)))))).mono ?_; clear HL; rintro e w3 ⟨rfl, hb3⟩)
      | (go_at_call 53; refine (HM.out _ (by (repeat (first | (with_reducible exact Below.refl _ _) | (with_reducible assumption) | (with_reducible apply bl_alloc) | (with_reducible apply bl_iter) | (with_reducible apply bl_drew) | (with_reducible apply bl_drewN) | (with_reducible refine bl_set ?_ (by first | assumption | (simp; done) | omega | (simp; omega)) _) | (with_reducible refine bl_then ?_ (by with_reducible assumption)))))).mono ?_; clear HM; rintro e w4 ⟨rfl, hb4⟩; have hbw : Below w.heap.size w w4.drew := by (repeat (first | (with_reducible exact Below.refl _ _) | (with_reducible assumption) | (with_reducible apply bl_alloc) | (with_reducible apply bl_iter) | (with_reducible apply bl_drew) | (with_reducible apply bl_drewN) | (with_reducible refine bl_set ?_ (by first | assumption | (simp; done) | omega | (simp; omega)) _) | (with_reducible refine bl_then ?_ (by with_reducible assumption))))))
    go_region_held3 (fun W => W.cell? ⟨r, 0, none⟩ = some v ∧ W.cell? ⟨q, 0, none⟩ = some u ∧ Below w.heap.size w W)
      (first | (with_reducible exact KC.out _ (bl_alloc hbw5 _)) | (with_reducible exact KC.out _ hbw5) | (with_reducible exact KC.out _ hbw))
      ((go_at_call 54; refine (HJ.out _ (by (repeat (first | (with_reducible exact Below.refl _ _) | (with_reducible assumption) | (with_reducible apply bl_alloc) | (with_reducible apply bl_iter) | (with_reducible apply bl_drew) | (with_reducible apply bl_drewN) | (with_reducible refine bl_set ?_ (by first | assumption | (simp; done) | omega | (simp; omega)) _) | (with_reducible refine bl_then ?_ (by with_reducible assumption)))))).mono ?_; clear HJ; rintro e w5 ⟨⟨x, rfl, hN⟩, hb5⟩; obtain ⟨tx, rx, rfl⟩ := hN.pos h0; have HN := Lib.hid hN; clear hN; have hbw5 : Below w.heap.size w w5 := by (repeat (first | (with_reducible exact Below.refl _ _) | (with_reducible assumption) | (with_reducible apply bl_alloc) | (with_reducible apply bl_iter) | (with_reducible apply bl_drew) | (with_reducible apply bl_drewN) | (with_reducible refine bl_set ?_ (by first | assumption | (simp; done) | omega | (simp; omega)) _) | (with_reducible refine bl_then ?_ (by with_reducible assumption))))))
    go_wp2
    have hz := hbw5.size
    all_goals go_ret2
    exact ⟨⟨_, rfl, by omega, _, Blk.new _ _ _, HN.out.below (by (repeat (first | (with_reducible exact Below.refl _ _) | (with_reducible assumption) | (with_reducible apply bl_alloc) | (with_reducible apply bl_iter) | (with_reducible apply bl_drew) | (with_reducible apply bl_drewN) | (with_reducible refine bl_set ?_ (by first | assumption | (simp; done) | omega | (simp; omega)) _) | (with_reducible refine bl_then ?_ (by with_reducible assumption)))))⟩, by (repeat (first | (with_reducible exact Below.refl _ _) | (with_reducible assumption) | (with_reducible apply bl_alloc) | (with_reducible apply bl_iter) | (with_reducible apply bl_drew) | (with_reducible apply bl_drewN) | (with_reducible refine bl_set ?_ (by first | assumption | (simp; done) | omega | (simp; omega)) _) | (with_reducible refine bl_then ?_ (by with_reducible assumption))))⟩
end Go.Proofs.YtcjplgcnjfinoaaDoor

namespace Go.Proofs.YtcjplgcnjfinoaaDoor
open Go.RowKit Go.Shelf Go.Proofs.YtcjplgcnjfinoaaDoorW.PrintWords Go.Proofs.YtcjplgcnjfinoaaDoorW.PrintMore
attribute [local go_sem] max2_int min2_int max_two min_two
attribute [local go_sem ↓] Go.wp_at_zero Go.wp_at_succ

/-- A leaf's pointer; a list of leaves; their bytes. -/
def encLf (p : Nat × ByteArray) : Value := .pointer (some ⟨p.1, 0, none⟩)
def catL : List (Nat × ByteArray) → ByteArray
  | [] => ByteArray.empty
  | p :: ls => p.2 ++ catL ls
theorem catL_append (a b : List (Nat × ByteArray)) : catL (a ++ b) = catL a ++ catL b := by
  induction a with
  | nil => show catL b = ByteArray.empty ++ catL b; rw [ByteArray.empty_append]
  | cons p a ih => show p.2 ++ catL (a ++ b) = (p.2 ++ catL a) ++ catL b; rw [ih, ByteArray.append_assoc]
def Leaves (W : World) (ls : List (Nat × ByteArray)) : Prop := ∀ p ∈ ls, LeafAt W p.1 p.2 ∧ 1 ≤ p.2.size ∧ p.2.size ≤ 4096
theorem Leaves.below {W W' : World} {ls : List (Nat × ByteArray)} (h : Leaves W ls) (hb : Below W.heap.size W W') : Leaves W' ls := fun p hp => ⟨(h p hp).1.below hb, (h p hp).2⟩
abbrev dLf : Nat × ByteArray := (0, ByteArray.empty)
theorem infoLeaf : (Tryd.prog.info? 121).map (fun i => (i.zero, i.size, i.bytes)) = some (some (.pointer none), 1, 8) := by kernel_rfl
theorem infoLeaf_get : ∃ i, Tryd.prog.info? 121 = some i ∧ i.size = 1 := by
  obtain ⟨i, hi, hz⟩ := Option.map_eq_some_iff.1 infoLeaf
  simp only [Prod.mk.injEq] at hz
  exact ⟨i, hi, hz.2.1⟩
theorem cut_leaves_to (A : Option Addr) (n c : Nat) (hi : Int) (h0 : 0 ≤ hi) (h2 : hi ≤ n) (hc : n ≤ c) :
    ∀ W : World, (Instr.slice 101 (.slice A n c) none (some (.int .i64 hi)) none).run Tryd.prog W = .ok (.slice A hi.toNat c) W := by
  obtain ⟨i, hi', hs⟩ := infoLeaf_get
  exact cut_to (P := Tryd.prog) 101 121 .i64 Tryd.underlying101 hi' A n c hi h0 h2 hc
theorem cut_leaves_from (A : Option Addr) (n c : Nat) (lo : Int) (h0 : 0 ≤ lo) (h2 : lo ≤ n) (hc : n ≤ c) :
    ∃ A' : Option Addr, (∀ W : World, (Instr.slice 101 (.slice A n c) (some (.int .i64 lo)) none none).run Tryd.prog W = .ok (.slice A' (n - lo.toNat) (c - lo.toNat)) W) ∧
      ∀ (w : World) (xs : List (Nat × ByteArray)), ReadsOf encLf dLf w A n xs → ReadsOf encLf dLf w A' (n - lo.toNat) (xs.drop lo.toNat) := by
  obtain ⟨i, hi', hs⟩ := infoLeaf_get
  refine ⟨_, cut_from (P := Tryd.prog) 101 121 .i64 Tryd.underlying101 hi' 1 hs A n c lo h0 h2, fun w xs h => ?_⟩
  rw [Nat.mul_one]
  exact h.drop_ (c := c) lo.toNat (by omega) (by omega)

/-- What grown promises of a list of leaves. -/
def Grows (ls : List (Nat × ByteArray)) : Prop :=
  ∀ (A : Option Addr) (c : Nat) (w : World), ls.length ≤ c → ReadsOf encLf dLf w A ls.length ls → Leaves w ls → (catL ls).size ≤ 268435456 → Env w →
    Calls Tryd.prog 52 #[.slice A ls.length c] w fun e w' => (∃ v, e = .returned v ∧ Top w' v (catL ls)) ∧ Below w.heap.size w w'

set_option maxRecDepth 100000 in
theorem grown_none : Grows [] := by
  intro A c w _ _ _ _ _
  go_enter Tryd.func52, Tryd.ntmps52
  go_wp2
  go_ret
  exact ⟨⟨_, rfl, .inl ⟨rfl, rfl⟩⟩, by (repeat (first | (with_reducible exact Below.refl _ _) | (with_reducible assumption) | (with_reducible apply bl_alloc) | (with_reducible apply bl_iter) | (with_reducible apply bl_drew) | (with_reducible apply bl_drewN) | (with_reducible refine bl_set ?_ (by first | assumption | (simp; done) | omega | (simp; omega)) _) | (with_reducible refine bl_then ?_ (by with_reducible assumption))))⟩
set_option maxRecDepth 100000 in
theorem grown_one (p : Nat × ByteArray) : Grows [p] := by
  intro A c w hc hr hl hsz he
  obtain ⟨ad, rfl, hcell⟩ := hr.at_ 0 (by omega) (by simp)
  have hc0 : w.cell? (ad.add 0) = some (.pointer (some ⟨p.1, 0, none⟩)) := hcell
  rw [add0] at hc0
  obtain ⟨h1, h2, h3⟩ := hl p (by simp)
  have HL := Lib.hid (leafLen_any p.1 p.2 w h1)
  have hcat : catL [p] = p.2 := by show p.2 ++ ByteArray.empty = _; rw [ByteArray.append_empty]
  have HH := Lib.hid (fun W (hb : Below w.heap.size w W) => (show Top W (.iface 124 (.agg #[.pointer (some ⟨p.1, 0, none⟩)])) (catL [p]) from by rw [hcat]; exact .inr ⟨.tip p.2, ⟨p.1, rfl, h1.below hb⟩, ⟨h2, h3⟩, rfl⟩))
  have h2' : ¬ (p.2.size : Int) = 0 := by omega
  have h2'' : ¬ p.2.size = 0 := by omega
  have had := add0 ad
  clear hr hl he hcell hsz hcat h1
  go_enter Tryd.func52, Tryd.ntmps52
  go_wp2_with (go_at_call 68; refine HL.out.mono ?_; rintro e w3 ⟨rfl, rfl⟩)
  go_ret
  exact ⟨⟨_, rfl, HH.out _ (by (repeat (first | (with_reducible exact Below.refl _ _) | (with_reducible assumption) | (with_reducible apply bl_alloc) | (with_reducible apply bl_iter) | (with_reducible apply bl_drew) | (with_reducible apply bl_drewN) | (with_reducible refine bl_set ?_ (by first | assumption | (simp; done) | omega | (simp; omega)) _) | (with_reducible refine bl_then ?_ (by with_reducible assumption)))))⟩, by (repeat (first | (with_reducible exact Below.refl _ _) | (with_reducible assumption) | (with_reducible apply bl_alloc) | (with_reducible apply bl_iter) | (with_reducible apply bl_drew) | (with_reducible apply bl_drewN) | (with_reducible refine bl_set ?_ (by first | assumption | (simp; done) | omega | (simp; omega)) _) | (with_reducible refine bl_then ?_ (by with_reducible assumption))))⟩

set_option maxRecDepth 100000 in
set_option maxHeartbeats 4000000 in
theorem grown_more (ls : List (Nat × ByteArray)) (h2 : 2 ≤ ls.length) (ih1 : Grows (ls.take (ls.length / 2))) (ih2 : Grows (ls.drop (ls.length / 2))) : Grows ls := by
  intro A c w hc hr hl hsz he
  have hcat : catL ls = catL (ls.take (ls.length / 2)) ++ catL (ls.drop (ls.length / 2)) := by rw [← catL_append, List.take_append_drop]
  rw [hcat] at hsz ⊢
  have hsz' := hsz
  rw [ByteArray.size_append] at hsz'
  have hmax := hr.2.1
  have e1 : ((ls.length : Int) / 2).toNat = ls.length / 2 := by omega
  have k1 := cut_leaves_to A ls.length c ((ls.length : Int) / 2) (by omega) (by omega) hc
  obtain ⟨A', k2, hrd⟩ := cut_leaves_from A ls.length c ((ls.length : Int) / 2) (by omega) (by omega) hc
  rw [e1] at k1 k2 hrd
  have k3 : ∀ W : World, (Instr.slice 101 (.slice A ls.length c) none (some (.int .i64 ((ls.length / 2 : Nat) : Int))) none).run Tryd.prog W = .ok (.slice A (ls.length / 2) c) W := k1
  have k4 : ∀ W : World, (Instr.slice 101 (.slice A ls.length c) (some (.int .i64 ((ls.length / 2 : Nat) : Int))) none none).run Tryd.prog W = .ok (.slice A' (ls.length - ls.length / 2) (c - ls.length / 2)) W := k2
  have L1 : (ls.take (ls.length / 2)).length = ls.length / 2 := by rw [List.length_take]; omega
  have L2 : (ls.drop (ls.length / 2)).length = ls.length - ls.length / 2 := by rw [List.length_drop]
  have HP := Lib.hid (fun W (hb : Below w.heap.size w W) => (show Calls Tryd.prog 52 #[.slice A (ls.length / 2) c] W _ from L1 ▸ ih1 A c W (by omega) (by rw [L1]; exact (hr.below hb).take_ _ (by omega)) (fun p hp => (hl.below hb) p (List.mem_of_mem_take hp)) (by omega) (he.below hb)))
  have HQ := Lib.hid (fun W (hb : Below w.heap.size w W) => (show Calls Tryd.prog 52 #[.slice A' (ls.length - ls.length / 2) (c - ls.length / 2)] W _ from L2 ▸ ih2 A' (c - ls.length / 2) W (by omega) (by rw [L2]; exact hrd _ _ (hr.below hb)) (fun p hp => (hl.below hb) p (List.mem_of_mem_drop hp)) (by omega) (he.below hb)))
  have HJ := Lib.hid (fun W v1 v2 (hb : Below w.heap.size w W) t1 t2 => join_any v1 v2 (catL (ls.take (ls.length / 2))) (catL (ls.drop (ls.length / 2))) hsz' W (he.below hb) t1 t2)
  have g1 : ¬ (ls.length : Int) = 0 := by omega
  have g2 : ¬ (ls.length : Int) = 1 := by omega
  have g3 : ¬ ls.length = 0 := by omega
  have g4 : ¬ ls.length = 1 := by omega
  clear hr hl he ih1 ih2 hcat hsz hsz' hrd e1 L1 L2
  generalize catL (ls.take (ls.length / 2)) = s1 at *
  generalize catL (ls.drop (ls.length / 2)) = s2 at *
  generalize ls.length = n at *
  have g5 := IntWalk.i64_quo (n : Int) 2 (by omega)
  have g6 : (n : Int).tdiv 2 = (n : Int) / 2 := Int.tdiv_eq_ediv_of_nonneg (by omega)
  have g7 : IntKind.i64.wrap ((n : Int) / 2) = (n : Int) / 2 := IntWalk.i64_in _ (by omega)
  have hbw : Below w.heap.size w w.drew := by (repeat (first | (with_reducible exact Below.refl _ _) | (with_reducible assumption) | (with_reducible apply bl_alloc) | (with_reducible apply bl_iter) | (with_reducible apply bl_drew) | (with_reducible apply bl_drewN) | (with_reducible refine bl_set ?_ (by first | assumption | (simp; done) | omega | (simp; omega)) _) | (with_reducible refine bl_then ?_ (by with_reducible assumption))))
  go_enter Tryd.func52, Tryd.ntmps52
  go_wp2
  go_region_held3 (fun W => Below w.heap.size w W)
    (first | (with_reducible exact hbw3) | (with_reducible exact hbw2) | (with_reducible exact hbw1) | (with_reducible exact hbw))
    (first
    | (go_at_call 52; refine (HP.out _ (by (repeat (first | (with_reducible exact Below.refl _ _) | (with_reducible assumption) | (with_reducible apply bl_alloc) | (with_reducible apply bl_iter) | (with_reducible apply bl_drew) | (with_reducible apply bl_drewN) | (with_reducible refine bl_set ?_ (by first | assumption | (simp; done) | omega | (simp; omega)) _) | (with_reducible refine bl_then ?_ (by with_reducible assumption)))))).mono ?_; clear HP; rintro e w1 ⟨⟨v1, rfl, hN⟩, hb1⟩; have HN := Lib.hid hN; clear hN; have hbw1 : Below w.heap.size w w1 := by (repeat (first | (with_reducible exact Below.refl _ _) | (with_reducible assumption) | (with_reducible apply bl_alloc) | (with_reducible apply bl_iter) | (with_reducible apply bl_drew) | (with_reducible apply bl_drewN) | (with_reducible refine bl_set ?_ (by first | assumption | (simp; done) | omega | (simp; omega)) _) | (with_reducible refine bl_then ?_ (by with_reducible assumption)))))
    | (go_at_call 52; refine (HQ.out _ (by (repeat (first | (with_reducible exact Below.refl _ _) | (with_reducible assumption) | (with_reducible apply bl_alloc) | (with_reducible apply bl_iter) | (with_reducible apply bl_drew) | (with_reducible apply bl_drewN) | (with_reducible refine bl_set ?_ (by first | assumption | (simp; done) | omega | (simp; omega)) _) | (with_reducible refine bl_then ?_ (by with_reducible assumption)))))).mono ?_; clear HQ; rintro e w2 ⟨⟨v2, rfl, hM⟩, hb2⟩; have HM := Lib.hid hM; clear hM; have HN2 := Lib.hid (HN.out.below hb2); have hbw2 : Below w.heap.size w w2 := by (repeat (first | (with_reducible exact Below.refl _ _) | (with_reducible assumption) | (with_reducible apply bl_alloc) | (with_reducible apply bl_iter) | (with_reducible apply bl_drew) | (with_reducible apply bl_drewN) | (with_reducible refine bl_set ?_ (by first | assumption | (simp; done) | omega | (simp; omega)) _) | (with_reducible refine bl_then ?_ (by with_reducible assumption)))))
    | (go_at_call 54; refine (HJ.out _ _ _ (by (repeat (first | (with_reducible exact Below.refl _ _) | (with_reducible assumption) | (with_reducible apply bl_alloc) | (with_reducible apply bl_iter) | (with_reducible apply bl_drew) | (with_reducible apply bl_drewN) | (with_reducible refine bl_set ?_ (by first | assumption | (simp; done) | omega | (simp; omega)) _) | (with_reducible refine bl_then ?_ (by with_reducible assumption))))) HN2.out HM.out).mono ?_; clear HJ; rintro e w3 ⟨⟨v3, rfl, hK⟩, hb3⟩; have HK := Lib.hid hK; clear hK; have hbw3 : Below w.heap.size w w3 := by (repeat (first | (with_reducible exact Below.refl _ _) | (with_reducible assumption) | (with_reducible apply bl_alloc) | (with_reducible apply bl_iter) | (with_reducible apply bl_drew) | (with_reducible apply bl_drewN) | (with_reducible refine bl_set ?_ (by first | assumption | (simp; done) | omega | (simp; omega)) _) | (with_reducible refine bl_then ?_ (by with_reducible assumption))))))
  go_wp2
  go_ret
  exact ⟨⟨_, rfl, HK.out⟩, by (repeat (first | (with_reducible exact Below.refl _ _) | (with_reducible assumption) | (with_reducible apply bl_alloc) | (with_reducible apply bl_iter) | (with_reducible apply bl_drew) | (with_reducible apply bl_drewN) | (with_reducible refine bl_set ?_ (by first | assumption | (simp; done) | omega | (simp; omega)) _) | (with_reducible refine bl_then ?_ (by with_reducible assumption))))⟩
theorem grown_any : ∀ (k : Nat) (ls : List (Nat × ByteArray)), ls.length ≤ k → Grows ls := by
  intro k
  induction k with
  | zero => intro ls h; obtain rfl : ls = [] := List.eq_nil_of_length_eq_zero (by omega); exact grown_none
  | succ k ih =>
    intro ls h
    match ls with
    | [] => exact grown_none
    | [p] => exact grown_one p
    | p :: q :: ls =>
      have hl : (p :: q :: ls).length = ls.length + 2 := rfl
      exact grown_more _ (by omega) (ih _ (by rw [List.length_take]; omega)) (ih _ (by rw [List.length_drop]; omega))
end Go.Proofs.YtcjplgcnjfinoaaDoor

namespace Go.Proofs.YtcjplgcnjfinoaaDoor
open Go.RowKit Go.Shelf Go.Proofs.YtcjplgcnjfinoaaDoorW.PrintWords Go.Proofs.YtcjplgcnjfinoaaDoorW.PrintMore
attribute [local go_sem] max2_int min2_int max_two min_two

theorem insideOf_le3 (xs : List Int) (p : Nat) : insideOf xs p ≤ 3 := by
  unfold insideOf
  split
  · omega
  · split
    · omega
    · split <;> omega
theorem strOfNums_append (a b : List Int) : strOfNums (a ++ b) = strOfNums a ++ strOfNums b := by
  simp [strOfNums, ByteArray.ext_iff]
/-- What the loop of Cut keeps. -/
def CutI (w : World) (xs : List Int) (v : Value) (p : Nat) (W : World) : Prop :=
  ∃ ls, ls.length ≤ p ∧ W.ownsRow w.heap.size 121 1 v ls.length (encs encLf ls) ∧ Leaves W ls ∧ catL ls = strOfNums (xs.take p) ∧ Below w.heap.size w W
theorem cutI_step {w w2 w3 : World} {xs : List Int} {v1 : Value} {p q l : Nat} {ls : List (Nat × ByteArray)} (hpq : p < q) (hq : q ≤ xs.length) (h4 : q - p ≤ 4096) (hlen : ls.length ≤ p) (hl : Leaves w2 ls) (hcat : catL ls = strOfNums (xs.take p))
    (hm : LeafAt w2 l (strOfNums ((xs.take q).drop p))) (hown : w3.ownsRow w.heap.size 121 1 v1 (ls ++ [(l, strOfNums ((xs.take q).drop p))]).length (encs encLf (ls ++ [(l, strOfNums ((xs.take q).drop p))])))
    (hb : Below w.heap.size w w3) (hk : ∀ p s, LeafAt w2 p s → LeafAt w3 p s) : CutI w xs v1 q w3 := by
  have hsz : (strOfNums ((xs.take q).drop p)).size = q - p := by
    rw [strOfNums_size, List.length_drop, List.length_take]; omega
  refine ⟨_, by rw [List.length_append]; show ls.length + 1 ≤ q; omega, hown, ?_, ?_, hb⟩
  · intro x hx
    rcases List.mem_append.1 hx with hx | hx
    · exact ⟨hk _ _ (hl x hx).1, (hl x hx).2⟩
    · rw [List.mem_singleton.1 hx]
      exact ⟨hk _ _ hm, by rw [hsz]; omega, by rw [hsz]; omega⟩
  · rw [catL_append, hcat]
    show strOfNums (xs.take p) ++ (strOfNums ((xs.take q).drop p) ++ ByteArray.empty) = _
    rw [ByteArray.append_empty, ← strOfNums_append]
    congr 1
    rw [show xs.take p = (xs.take q).take p from by rw [List.take_take]; congr 1; omega, List.take_append_drop]

set_option maxRecDepth 100000 in
set_option maxHeartbeats 4000000 in
theorem Cut_any (A : Option Addr) (n c : Nat) (xs : List Int) (w : World) (he : Env w) (hr : ReadsInt w .u8 A n xs) (hc : n ≤ c) (hn : n ≤ 268435456) :
    Calls Tryd.prog 51 #[.slice A n c, .int .i64 4096] w fun e w' => (∃ v ls, e = .returned (.tuple #[v, .int .i64 0]) ∧ w'.ownsRow w.heap.size 121 1 v ls.length (encs encLf ls) ∧ Leaves w' ls ∧ catL ls = strOfNums xs) ∧ Below w.heap.size w w' := by
  have hxl : xs.length = n := hr.1
  have HR := Lib.hid (fun W (hb : Below w.heap.size w W) => hr.below hb)
  have HE := Lib.hid (fun W (hb : Below w.heap.size w W) => he.below hb)
  clear hr he
  go_enter Tryd.func51, Tryd.ntmps51
  go_wp2
  go_loopw [6, 7] (fun v u wr => ∃ p : Nat, p ≤ n ∧ u = .int .i64 p ∧ CutI w xs v p wr) (fun _ u _ => n - (intOf u).toNat)
  case atStart => exact ⟨0, Nat.zero_le _, rfl, [], Nat.le_refl _, own_nil _ _ _ _, fun p hp => absurd hp (by simp), rfl, Below.refl _ _⟩
  case round =>
    obtain ⟨p, hp, rfl, ls, hlen, hown, hlv, hcat, hbl⟩ := hrel
    have hx2 : (xs.drop p).length = n - p := by rw [List.length_drop, hxl]
    have g0 : IntKind.i64.wrap ((n : Int) - p) = (n : Int) - p := IntWalk.i64_in _ (by omega)
    by_cases hgt : 4096 < n - p
    · have hi := insideOf_le3 xs (p + 4096)
      obtain ⟨q, hq⟩ : ∃ q, q = p + 4096 - insideOf xs (p + 4096) := ⟨_, rfl⟩
      have g1 : (4096 : Int) < (n : Int) - p := by omega
      have g2 : IntKind.i64.wrap ((p : Int) + 4096) = (p : Int) + 4096 := IntWalk.i64_in _ (by omega)
      have hpq : p < q := by omega
      have hqn : q ≤ n := by omega
      have hq4 : q - p ≤ 4096 := by omega
      have hF : ∀ W, Below w.heap.size w W → Calls Tryd.prog 38 #[.slice A n c, .int .i64 ((p : Int) + 4096)] W fun e w' => e = .returned (.tuple #[.int .i64 q, .int .i64 0]) ∧ Below W.heap.size W w' := fun W hb => by
        have h := Floor_any A n c xs ((p : Int) + 4096) W (HE.out W hb) (HR.out W hb) hc (by omega)
        have e1 : ((p : Int) + 4096).toNat = p + 4096 := by omega
        rw [if_neg (by omega), if_neg (by omega), e1, show (p : Int) + 4096 - (insideOf xs (p + 4096) : Int) = (q : Int) from by omega] at h
        exact h
      have HF := Lib.hid hF
      obtain ⟨A', hcut, hA'⟩ := cut_bytes A n c p q (by omega) (by omega) (by omega) hc
      have HS := Lib.hid (fun W hb => bytes_string (c := c - (p : Int).toNat) (hA' W xs (HR.out W hb)))
      have hsz : (strOfNums ((xs.take q).drop p)).size = q - p := by rw [strOfNums_size, List.length_drop, List.length_take]; omega
      simp only [Int.toNat_natCast] at hcut HS
      have HM := Lib.hid (fun W hb => made_any (strOfNums ((xs.take q).drop p)) (by omega) W (HE.out W hb))
      have HV := Lib.hid (fun w2 w3 v1 l (hb : Below wr.heap.size wr w2) => @cutI_step w w2 w3 xs v1 p q l ls (by omega) (by omega) (by omega) hlen (hlv.below hb) hcat)
      have HO := Lib.hid hown
      have h1 : (p : Int) ≤ q := by omega
      have h2 : (q : Int) ≤ n := by omega
      clear hF hA' hi hq hcat hlv hown hx2
      go_wp2_with (first
        | (go_at_call 38; refine (HF.out _ (by (repeat (first | (with_reducible exact Below.refl _ _) | (with_reducible assumption) | (with_reducible apply bl_alloc) | (with_reducible apply bl_iter) | (with_reducible apply bl_drew) | (with_reducible apply bl_drewN) | (with_reducible refine bl_set ?_ (by first | assumption | (simp; done) | omega | (simp; omega)) _) | (with_reducible refine bl_then ?_ (by with_reducible assumption)))))).mono ?_; clear HF; rintro e w1 ⟨rfl, hb1⟩; have hstr := HS.out w1 (by (repeat (first | (with_reducible exact Below.refl _ _) | (with_reducible assumption) | (with_reducible apply bl_alloc) | (with_reducible apply bl_iter) | (with_reducible apply bl_drew) | (with_reducible apply bl_drewN) | (with_reducible refine bl_set ?_ (by first | assumption | (simp; done) | omega | (simp; omega)) _) | (with_reducible refine bl_then ?_ (by with_reducible assumption))))))
        | (go_at_call 67; refine (HM.out _ (by (repeat (first | (with_reducible exact Below.refl _ _) | (with_reducible assumption) | (with_reducible apply bl_alloc) | (with_reducible apply bl_iter) | (with_reducible apply bl_drew) | (with_reducible apply bl_drewN) | (with_reducible refine bl_set ?_ (by first | assumption | (simp; done) | omega | (simp; omega)) _) | (with_reducible refine bl_then ?_ (by with_reducible assumption)))))).mono ?_; clear HM; rintro e w2 ⟨l, ⟨rfl, hl1, hl2⟩, hb2⟩; have HB2 : Below wr.heap.size wr w2 := by (repeat (first | (with_reducible exact Below.refl _ _) | (with_reducible assumption) | (with_reducible apply bl_alloc) | (with_reducible apply bl_iter) | (with_reducible apply bl_drew) | (with_reducible apply bl_drewN) | (with_reducible refine bl_set ?_ (by first | assumption | (simp; done) | omega | (simp; omega)) _) | (with_reducible refine bl_then ?_ (by with_reducible assumption)))))
        | (at_builtin; refine print_append_of (w0 := w) encLf w.heap.size rfl (.tmp 35) (.tmp 42) 101 121 (.pointer none) 8 rfl Tryd.underlying101 infoLeaf rfl (by decide) u6 ls (l, strOfNums ((xs.take q).drop p)) rfl rfl rfl (pw_own_below HO.out HB2) (bl_then hbl HB2) (bl_then hbl HB2).size (by omega) ?_; intro v1 w3 hown3 hb3 hg3 hat3))
      have HW := pw_own_below HO.out HB2
      have R := HV.out w2 w3 v1 l HB2 hl2 hown3 hb3 (fun p s h => blk_grown h hg3 (own_ne HW h (by decide)))
      go_roundw
      case rel => exact ⟨q, hqn, rfl, R⟩
      case measure => simp [intOf]; omega
    · have g1 : ¬ (4096 : Int) < (n : Int) - p := by omega
      by_cases hlt : p < n
      · obtain ⟨A', hcut, hA'⟩ := cut_bytes_from A n c p (by omega) (by omega) hc
        have HS := Lib.hid (fun W hb => bytes_string (c := c - (p : Int).toNat) (hA' W xs (HR.out W hb)))
        simp only [Int.toNat_natCast] at hcut HS
        have e1 : xs.drop p = (xs.take n).drop p := by rw [List.take_of_length_le (by omega)]
        rw [e1] at HS
        have hsz : (strOfNums ((xs.take n).drop p)).size = n - p := by rw [strOfNums_size, List.length_drop, List.length_take]; omega
        have HM := Lib.hid (fun W hb => made_any (strOfNums ((xs.take n).drop p)) (by omega) W (HE.out W hb))
        have HV := Lib.hid (fun w2 w3 v1 l (hb : Below wr.heap.size wr w2) => @cutI_step w w2 w3 xs v1 p n l ls hlt (by omega) (by omega) hlen (hlv.below hb) hcat)
        have HO := Lib.hid hown
        have h1 : (p : Int) < n := by omega
        have hstr := HS.out wr hbl
        clear hA' e1 hcat hlv hown hx2
        go_wp2_with (first
          | (go_at_call 67; refine (HM.out _ (by (repeat (first | (with_reducible exact Below.refl _ _) | (with_reducible assumption) | (with_reducible apply bl_alloc) | (with_reducible apply bl_iter) | (with_reducible apply bl_drew) | (with_reducible apply bl_drewN) | (with_reducible refine bl_set ?_ (by first | assumption | (simp; done) | omega | (simp; omega)) _) | (with_reducible refine bl_then ?_ (by with_reducible assumption)))))).mono ?_; clear HM; rintro e w2 ⟨l, ⟨rfl, hl1, hl2⟩, hb2⟩; have HB2 : Below wr.heap.size wr w2 := by (repeat (first | (with_reducible exact Below.refl _ _) | (with_reducible assumption) | (with_reducible apply bl_alloc) | (with_reducible apply bl_iter) | (with_reducible apply bl_drew) | (with_reducible apply bl_drewN) | (with_reducible refine bl_set ?_ (by first | assumption | (simp; done) | omega | (simp; omega)) _) | (with_reducible refine bl_then ?_ (by with_reducible assumption)))))
          | (at_builtin; refine print_append_of (w0 := w) encLf w.heap.size rfl (.tmp 49) (.tmp 55) 101 121 (.pointer none) 8 rfl Tryd.underlying101 infoLeaf rfl (by decide) u6 ls (l, strOfNums ((xs.take n).drop p)) rfl rfl rfl (pw_own_below HO.out HB2) (bl_then hbl HB2) (bl_then hbl HB2).size (by omega) ?_; intro v1 w3 hown3 hb3 hg3 hat3))
        have HW := pw_own_below HO.out HB2
        have R := HV.out w2 w3 v1 l HB2 hl2 hown3 hb3 (fun p s h => blk_grown h hg3 (own_ne HW h (by decide)))
        go_ret2
        obtain ⟨ls', -, r1, r2, r3, r4⟩ := R
        rw [List.take_of_length_le (by omega)] at r3
        exact ⟨⟨_, ls', rfl, r1, r2, r3⟩, r4⟩
      · have h1 : ¬ (p : Int) < n := by omega
        have e1 : xs.take p = xs := List.take_of_length_le (by omega)
        rw [e1] at hcat
        have R := Lib.hid (And.intro hown (And.intro hlv hcat))
        clear hown hlv hcat hx2 e1
        go_wp2
        go_ret2
        first | exact ⟨⟨_, ls, rfl, R.out.1, R.out.2.1, R.out.2.2⟩, hbl⟩ | exact ⟨⟨_, rfl, ls, R.out.1, R.out.2.1, R.out.2.2⟩, hbl⟩
end Go.Proofs.YtcjplgcnjfinoaaDoor

namespace Go.Proofs.YtcjplgcnjfinoaaDoor
open Go.RowKit Go.Shelf Go.Proofs.YtcjplgcnjfinoaaDoorW.PrintWords Go.Proofs.YtcjplgcnjfinoaaDoorW.PrintMore
attribute [local go_sem] max2_int min2_int max_two min_two

set_option maxRecDepth 100000 in
set_option maxHeartbeats 2000000 in
theorem New_any (A : Option Addr) (n c : Nat) (xs : List Int) (w : World) (he : Env w) (hr : ReadsInt w .u8 A n xs) (hc : n ≤ c) (hn : n ≤ 268435456) :
    Calls Tryd.prog 32 #[.slice A n c] w fun e w' => (∃ p, e = .returned (.tuple #[.pointer (some ⟨p, 0, none⟩), .int .i64 0]) ∧ w.heap.size ≤ p ∧ RopeAt w' p (strOfNums xs)) ∧ Below w.heap.size w w' := by
  have HC := Lib.hid (Cut_any A n c xs w he hr hc hn)
  have hsz : (strOfNums xs).size = n := by rw [strOfNums_size]; exact hr.1
  have h1 : ¬ (268435456 : Int) < n := by omega
  have HG := Lib.hid (fun (ls : List (Nat × ByteArray)) (A1 : Option Addr) (c1 : Nat) (w1 : World) (hb : Below w.heap.size w w1) (h1 : ls.length ≤ c1) (h2 : ReadsOf encLf dLf w1 A1 ls.length ls) (h3 : Leaves w1 ls) (h4 : catL ls = strOfNums xs) =>
    (h4 ▸ grown_any _ ls (Nat.le_refl _) A1 c1 w1 h1 h2 h3 (by rw [h4, hsz]; omega) (he.below hb) : Calls Tryd.prog 52 #[.slice A1 ls.length c1] w1 fun e w' => (∃ v, e = .returned v ∧ Top w' v (strOfNums xs)) ∧ Below w1.heap.size w1 w'))
  clear he hr
  by_cases h0 : (strOfNums xs).size = 0
  · go_enter Tryd.func32, Tryd.ntmps32
    go_wp2_with (first
      | (go_at_call 51; refine HC.out.mono ?_; clear HC; rintro e w1 ⟨⟨v, ls, rfl, hown, hl, hcat⟩, hb1⟩; obtain ⟨A1, c1, rfl, hle, hro⟩ := own_reads_of_le (d := dLf) hown; have HX := Lib.hid (HG.out ls A1 c1 w1 hb1 hle hro hl hcat); clear HG hown hro hl hcat hle)
      | (go_at_call 52; refine HX.out.mono ?_; clear HX; rintro e w2 ⟨⟨x, rfl, hT⟩, hb2⟩; obtain rfl := hT.zero h0; have HT := Lib.hid hT; clear hT))
    have hb3 : Below w.heap.size w w2 := by (repeat (first | (with_reducible exact Below.refl _ _) | (with_reducible assumption) | (with_reducible apply bl_alloc) | (with_reducible apply bl_iter) | (with_reducible apply bl_drew) | (with_reducible apply bl_drewN) | (with_reducible refine bl_set ?_ (by first | assumption | (simp; done) | omega | (simp; omega)) _) | (with_reducible refine bl_then ?_ (by with_reducible assumption))))
    have hz := hb3.size
    go_ret2
    exact ⟨⟨_, rfl, by omega, _, Blk.new _ _ _, HT.out.below (by (repeat (first | (with_reducible exact Below.refl _ _) | (with_reducible assumption) | (with_reducible apply bl_alloc) | (with_reducible apply bl_iter) | (with_reducible apply bl_drew) | (with_reducible apply bl_drewN) | (with_reducible refine bl_set ?_ (by first | assumption | (simp; done) | omega | (simp; omega)) _) | (with_reducible refine bl_then ?_ (by with_reducible assumption)))))⟩, by (repeat (first | (with_reducible exact Below.refl _ _) | (with_reducible assumption) | (with_reducible apply bl_alloc) | (with_reducible apply bl_iter) | (with_reducible apply bl_drew) | (with_reducible apply bl_drewN) | (with_reducible refine bl_set ?_ (by first | assumption | (simp; done) | omega | (simp; omega)) _) | (with_reducible refine bl_then ?_ (by with_reducible assumption))))⟩
  · go_enter Tryd.func32, Tryd.ntmps32
    go_wp2_with (first
      | (go_at_call 51; refine HC.out.mono ?_; clear HC; rintro e w1 ⟨⟨v, ls, rfl, hown, hl, hcat⟩, hb1⟩; obtain ⟨A1, c1, rfl, hle, hro⟩ := own_reads_of_le (d := dLf) hown; have HX := Lib.hid (HG.out ls A1 c1 w1 hb1 hle hro hl hcat); clear HG hown hro hl hcat hle)
      | (go_at_call 52; refine HX.out.mono ?_; clear HX; rintro e w2 ⟨⟨x, rfl, hT⟩, hb2⟩; obtain ⟨tx, rx, rfl⟩ := hT.pos h0; have HT := Lib.hid hT; clear hT))
    have hb3 : Below w.heap.size w w2 := by (repeat (first | (with_reducible exact Below.refl _ _) | (with_reducible assumption) | (with_reducible apply bl_alloc) | (with_reducible apply bl_iter) | (with_reducible apply bl_drew) | (with_reducible apply bl_drewN) | (with_reducible refine bl_set ?_ (by first | assumption | (simp; done) | omega | (simp; omega)) _) | (with_reducible refine bl_then ?_ (by with_reducible assumption))))
    have hz := hb3.size
    go_ret2
    exact ⟨⟨_, rfl, by omega, _, Blk.new _ _ _, HT.out.below (by (repeat (first | (with_reducible exact Below.refl _ _) | (with_reducible assumption) | (with_reducible apply bl_alloc) | (with_reducible apply bl_iter) | (with_reducible apply bl_drew) | (with_reducible apply bl_drewN) | (with_reducible refine bl_set ?_ (by first | assumption | (simp; done) | omega | (simp; omega)) _) | (with_reducible refine bl_then ?_ (by with_reducible assumption)))))⟩, by (repeat (first | (with_reducible exact Below.refl _ _) | (with_reducible assumption) | (with_reducible apply bl_alloc) | (with_reducible apply bl_iter) | (with_reducible apply bl_drew) | (with_reducible apply bl_drewN) | (with_reducible refine bl_set ?_ (by first | assumption | (simp; done) | omega | (simp; omega)) _) | (with_reducible refine bl_then ?_ (by with_reducible assumption))))⟩
end Go.Proofs.YtcjplgcnjfinoaaDoor
