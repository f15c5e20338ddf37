/- Contract of rope.join: two nodes of any heights. -/
import Derived.Test.YtcjplgcnjfinoaaDoorRopeG
namespace Go.Proofs.YtcjplgcnjfinoaaDoor
open Go.RowKit Go.Shelf Go.Proofs.YtcjplgcnjfinoaaDoorW.PrintWords Go.Proofs.YtcjplgcnjfinoaaDoorW.PrintMore
attribute [local go_sem] max2_int min2_int max_two min_two
attribute [local go_sem ↓] Go.wp_at_zero Go.wp_at_succ

/-- What a node's assertion to a tip answers. -/
theorem IsNode.asks {W : World} : ∀ {T : RT} {v : Value}, IsNode W v T → ∃ (la : Option Addr) (o : Bool), (∀ w, (Instr.typeAssert v 105 124 true).run Tryd.prog w = .ok (.tuple #[.agg #[.pointer la], .bool o]) w) ∧ (o = true → ∃ l s, T = .tip s ∧ la = some ⟨l, 0, none⟩ ∧ LeafAt W l s)
  | .tip s, _, ⟨l, rfl, h2⟩ => ⟨_, _, assertTip _, fun _ => ⟨l, s, rfl, rfl, h2⟩⟩
  | .fork a b, _, ⟨p, va, vb, rfl, h2, _, _⟩ => ⟨_, _, assertNoTip _, fun h => by cases h⟩

set_option maxRecDepth 100000 in
set_option maxHeartbeats 2000000 in
theorem join_pair (va vb : Value) (A B : RT) (okA : A.ok) (okB : B.ok) (hsz : A.bytes.size + B.bytes.size ≤ 268435456) (h1 : A.high ≤ B.high + 1) (h2 : B.high ≤ A.high + 1) (la lb : Option Addr) (oA oB : Bool)
    (aA : ∀ w, (Instr.typeAssert va 105 124 true).run Tryd.prog w = .ok (.tuple #[.agg #[.pointer la], .bool oA]) w) (aB : ∀ w, (Instr.typeAssert vb 105 124 true).run Tryd.prog w = .ok (.tuple #[.agg #[.pointer lb], .bool oB]) w)
    (hno : (oA && oB) = true → ¬ A.bytes.size + B.bytes.size ≤ 4096) (w : World) (he : Env w) (ha : IsNode w va A) (hb : IsNode w vb B) :
    Calls Tryd.prog 54 #[va, vb] w fun e w' => (∃ v, e = .returned v ∧ Holds w' v (A.bytes ++ B.bytes)) ∧ Below w.heap.size w w' := by
  have HP := Lib.hid (fun W (h : Below w.heap.size w W) => pair_any va vb A B okA okB hsz W (he.below h) (IsNode.below h A va ha) (IsNode.below h B vb hb))
  have HH := Lib.hid (fun W v (h : IsNode W v (.fork A B)) => (show Holds W v (A.bytes ++ B.bytes) from ⟨_, h, ⟨okA, okB⟩, rfl⟩))
  have hhA := A.high_le okA
  have hhB := B.high_le okB
  have g1 : ¬ (1 : Int) < (A.high : Int) - B.high := by omega
  have g2 : ¬ (A.high : Int) - B.high < -1 := by omega
  have g3 : IntKind.i64.wrap ((A.high : Int) - B.high) = (A.high : Int) - B.high := IntWalk.i64_in _ (by omega)
  have g4 : IntKind.i64.wrap ((A.bytes.size : Int) + B.bytes.size) = (A.bytes.size : Int) + B.bytes.size := IntWalk.i64_in _ (by omega)
  have g5 : (oA && oB) = true → ¬ (A.bytes.size : Int) + B.bytes.size ≤ 4096 := fun h => by have := hno h; omega
  obtain ⟨ta, ra, fSa, fWa, fHa, rfl, mSa, mWa, mHa, eSa, eWa, eHa, cSa, cWa, cHa⟩ := ha.fns
  obtain ⟨tb, rb, fSb, fWb, fHb, rfl, mSb, mWb, mHb, eSb, eWb, eHb, cSb, cWb, cHb⟩ := hb.fns
  clear he ha hb okA okB hsz h1 h2 hhA hhB cWa cWb mWa mWb eWa eWb hno
  cases oA
  · clear g5 cSa cSb mSa mSb eSa eSb
    go_enter Tryd.func54, Tryd.ntmps54
    go_wp2_with (first
      | (with_reducible refine (cHa _ (by (repeat (first | (with_reducible exact Below.refl _ _) | (with_reducible assumption) | (with_reducible apply bl_alloc) | (with_reducible apply bl_iter) | (with_reducible apply bl_drew) | (with_reducible apply bl_drewN) | (with_reducible refine bl_set ?_ (by first | assumption | (simp; done) | omega | (simp; omega)) _) | (with_reducible refine bl_then ?_ (by with_reducible assumption)))))).mono ?_; clear cHa; rintro e w3 ⟨rfl, hb3⟩)
      | (with_reducible refine (cHb _ (by (repeat (first | (with_reducible exact Below.refl _ _) | (with_reducible assumption) | (with_reducible apply bl_alloc) | (with_reducible apply bl_iter) | (with_reducible apply bl_drew) | (with_reducible apply bl_drewN) | (with_reducible refine bl_set ?_ (by first | assumption | (simp; done) | omega | (simp; omega)) _) | (with_reducible refine bl_then ?_ (by with_reducible assumption)))))).mono ?_; clear cHb; rintro e w4 ⟨rfl, hb4⟩)
      | (go_at_call 71; refine (HP.out _ (by (repeat (first | (with_reducible exact Below.refl _ _) | (with_reducible assumption) | (with_reducible apply bl_alloc) | (with_reducible apply bl_iter) | (with_reducible apply bl_drew) | (with_reducible apply bl_drewN) | (with_reducible refine bl_set ?_ (by first | assumption | (simp; done) | omega | (simp; omega)) _) | (with_reducible refine bl_then ?_ (by with_reducible assumption)))))).mono ?_; rintro e w7 ⟨v, ⟨rfl, hN⟩, hb7⟩; have HN := Lib.hid hN; clear hN))
    go_ret
    exact ⟨⟨_, rfl, HH.out _ _ HN.out⟩, by (repeat (first | (with_reducible exact Below.refl _ _) | (with_reducible assumption) | (with_reducible apply bl_alloc) | (with_reducible apply bl_iter) | (with_reducible apply bl_drew) | (with_reducible apply bl_drewN) | (with_reducible refine bl_set ?_ (by first | assumption | (simp; done) | omega | (simp; omega)) _) | (with_reducible refine bl_then ?_ (by with_reducible assumption))))⟩
  · cases oB
    · clear g5 cSa cSb mSa mSb eSa eSb
      go_enter Tryd.func54, Tryd.ntmps54
      go_wp2_with (first
        | (with_reducible refine (cHa _ (by (repeat (first | (with_reducible exact Below.refl _ _) | (with_reducible assumption) | (with_reducible apply bl_alloc) | (with_reducible apply bl_iter) | (with_reducible apply bl_drew) | (with_reducible apply bl_drewN) | (with_reducible refine bl_set ?_ (by first | assumption | (simp; done) | omega | (simp; omega)) _) | (with_reducible refine bl_then ?_ (by with_reducible assumption)))))).mono ?_; clear cHa; rintro e w3 ⟨rfl, hb3⟩)
        | (with_reducible refine (cHb _ (by (repeat (first | (with_reducible exact Below.refl _ _) | (with_reducible assumption) | (with_reducible apply bl_alloc) | (with_reducible apply bl_iter) | (with_reducible apply bl_drew) | (with_reducible apply bl_drewN) | (with_reducible refine bl_set ?_ (by first | assumption | (simp; done) | omega | (simp; omega)) _) | (with_reducible refine bl_then ?_ (by with_reducible assumption)))))).mono ?_; clear cHb; rintro e w4 ⟨rfl, hb4⟩)
        | (go_at_call 71; refine (HP.out _ (by (repeat (first | (with_reducible exact Below.refl _ _) | (with_reducible assumption) | (with_reducible apply bl_alloc) | (with_reducible apply bl_iter) | (with_reducible apply bl_drew) | (with_reducible apply bl_drewN) | (with_reducible refine bl_set ?_ (by first | assumption | (simp; done) | omega | (simp; omega)) _) | (with_reducible refine bl_then ?_ (by with_reducible assumption)))))).mono ?_; rintro e w7 ⟨v, ⟨rfl, hN⟩, hb7⟩; have HN := Lib.hid hN; clear hN))
      go_ret
      exact ⟨⟨_, rfl, HH.out _ _ HN.out⟩, by (repeat (first | (with_reducible exact Below.refl _ _) | (with_reducible assumption) | (with_reducible apply bl_alloc) | (with_reducible apply bl_iter) | (with_reducible apply bl_drew) | (with_reducible apply bl_drewN) | (with_reducible refine bl_set ?_ (by first | assumption | (simp; done) | omega | (simp; omega)) _) | (with_reducible refine bl_then ?_ (by with_reducible assumption))))⟩
    · have g5 := g5 rfl
      go_enter Tryd.func54, Tryd.ntmps54
      go_wp2_with (first
        | (with_reducible refine (cHa _ (by (repeat (first | (with_reducible exact Below.refl _ _) | (with_reducible assumption) | (with_reducible apply bl_alloc) | (with_reducible apply bl_iter) | (with_reducible apply bl_drew) | (with_reducible apply bl_drewN) | (with_reducible refine bl_set ?_ (by first | assumption | (simp; done) | omega | (simp; omega)) _) | (with_reducible refine bl_then ?_ (by with_reducible assumption)))))).mono ?_; clear cHa; rintro e w3 ⟨rfl, hb3⟩)
        | (with_reducible refine (cHb _ (by (repeat (first | (with_reducible exact Below.refl _ _) | (with_reducible assumption) | (with_reducible apply bl_alloc) | (with_reducible apply bl_iter) | (with_reducible apply bl_drew) | (with_reducible apply bl_drewN) | (with_reducible refine bl_set ?_ (by first | assumption | (simp; done) | omega | (simp; omega)) _) | (with_reducible refine bl_then ?_ (by with_reducible assumption)))))).mono ?_; clear cHb; rintro e w4 ⟨rfl, hb4⟩)
        | (with_reducible refine (cSa _ (by (repeat (first | (with_reducible exact Below.refl _ _) | (with_reducible assumption) | (with_reducible apply bl_alloc) | (with_reducible apply bl_iter) | (with_reducible apply bl_drew) | (with_reducible apply bl_drewN) | (with_reducible refine bl_set ?_ (by first | assumption | (simp; done) | omega | (simp; omega)) _) | (with_reducible refine bl_then ?_ (by with_reducible assumption)))))).mono ?_; clear cSa; rintro e w5 ⟨rfl, hb5⟩)
        | (with_reducible refine (cSb _ (by (repeat (first | (with_reducible exact Below.refl _ _) | (with_reducible assumption) | (with_reducible apply bl_alloc) | (with_reducible apply bl_iter) | (with_reducible apply bl_drew) | (with_reducible apply bl_drewN) | (with_reducible refine bl_set ?_ (by first | assumption | (simp; done) | omega | (simp; omega)) _) | (with_reducible refine bl_then ?_ (by with_reducible assumption)))))).mono ?_; clear cSb; rintro e w6 ⟨rfl, hb6⟩)
        | (go_at_call 71; refine (HP.out _ (by (repeat (first | (with_reducible exact Below.refl _ _) | (with_reducible assumption) | (with_reducible apply bl_alloc) | (with_reducible apply bl_iter) | (with_reducible apply bl_drew) | (with_reducible apply bl_drewN) | (with_reducible refine bl_set ?_ (by first | assumption | (simp; done) | omega | (simp; omega)) _) | (with_reducible refine bl_then ?_ (by with_reducible assumption)))))).mono ?_; rintro e w7 ⟨v, ⟨rfl, hN⟩, hb7⟩; have HN := Lib.hid hN; clear hN))
      go_ret
      exact ⟨⟨_, rfl, HH.out _ _ HN.out⟩, by (repeat (first | (with_reducible exact Below.refl _ _) | (with_reducible assumption) | (with_reducible apply bl_alloc) | (with_reducible apply bl_iter) | (with_reducible apply bl_drew) | (with_reducible apply bl_drewN) | (with_reducible refine bl_set ?_ (by first | assumption | (simp; done) | omega | (simp; omega)) _) | (with_reducible refine bl_then ?_ (by with_reducible assumption))))⟩

set_option maxRecDepth 100000 in
set_option maxHeartbeats 2000000 in
theorem join_tips (l m : Nat) (s t : ByteArray) (okA : (RT.tip s).ok) (hsz : s.size + t.size ≤ 4096) (w : World) (he : Env w) (ha : LeafAt w l s) (hb : LeafAt w m t) :
    Calls Tryd.prog 54 #[.iface 124 (.agg #[.pointer (some ⟨l, 0, none⟩)]), .iface 124 (.agg #[.pointer (some ⟨m, 0, none⟩)])] w fun e w' => (∃ v, e = .returned v ∧ Holds w' v (s ++ t)) ∧ Below w.heap.size w w' := by
  have HP := Lib.hid (fun W (h : Below w.heap.size w W) => leafJoin_any l m s t W (he.below h) (ha.below h) (hb.below h) hsz)
  have HH := Lib.hid (fun W n (h : LeafAt W n (s ++ t)) => (show Holds W (.iface 124 (.agg #[.pointer (some ⟨n, 0, none⟩)])) (s ++ t) from ⟨.tip (s ++ t), ⟨n, rfl, h⟩, ⟨by have := okA.1; rw [ByteArray.size_append]; omega, by rw [ByteArray.size_append]; exact hsz⟩, rfl⟩))
  have g4 : IntKind.i64.wrap ((s.size : Int) + t.size) = (s.size : Int) + t.size := IntWalk.i64_in _ (by omega)
  have g5 : (s.size : Int) + t.size ≤ 4096 := by omega
  have mSa := tipSize
  have mHa := tipHeight
  have eSa := enterTS
  have eHa := enterTH
  have aT := assertTip
  have cSa := fun W (h : Below w.heap.size w W) => tipSize_any l s W (ha.below h)
  have cSb := fun W (h : Below w.heap.size w W) => tipSize_any m t W (hb.below h)
  have cHa := tipHeight_any
  clear he ha hb okA
  go_enter Tryd.func54, Tryd.ntmps54
  go_wp2_with (first
    | (go_at_call 125; with_reducible refine (cHa _ _).mono ?_; rintro e w3 ⟨rfl, hb3⟩)
    | (go_at_call 126; with_reducible refine (cSa _ (by (repeat (first | (with_reducible exact Below.refl _ _) | (with_reducible assumption) | (with_reducible apply bl_alloc) | (with_reducible apply bl_iter) | (with_reducible apply bl_drew) | (with_reducible apply bl_drewN) | (with_reducible refine bl_set ?_ (by first | assumption | (simp; done) | omega | (simp; omega)) _) | (with_reducible refine bl_then ?_ (by with_reducible assumption)))))).mono ?_; clear cSa; rintro e w5 ⟨rfl, hb5⟩; obtain ⟨hcl5, hfr5⟩ := bcell hb5; obtain ⟨y0, y1⟩ : w3.heap.size < w5.heap.size ∧ w3.heap.size + 1 < w5.heap.size := by have hz := hb5.size; (try simp at hz); omega)
    | (go_at_call 126; with_reducible refine (cSb _ (by (repeat (first | (with_reducible exact Below.refl _ _) | (with_reducible assumption) | (with_reducible apply bl_alloc) | (with_reducible apply bl_iter) | (with_reducible apply bl_drew) | (with_reducible apply bl_drewN) | (with_reducible refine bl_set ?_ (by first | assumption | (simp; done) | omega | (simp; omega)) _) | (with_reducible refine bl_then ?_ (by with_reducible assumption)))))).mono ?_; clear cSb; rintro e w6 ⟨rfl, hb6⟩; obtain ⟨hcl6, hfr6⟩ := bcell hb6)
    | (go_at_call 70; refine (HP.out _ (by (repeat (first | (with_reducible exact Below.refl _ _) | (with_reducible assumption) | (with_reducible apply bl_alloc) | (with_reducible apply bl_iter) | (with_reducible apply bl_drew) | (with_reducible apply bl_drewN) | (with_reducible refine bl_set ?_ (by first | assumption | (simp; done) | omega | (simp; omega)) _) | (with_reducible refine bl_then ?_ (by with_reducible assumption)))))).mono ?_; rintro e w7 ⟨n, ⟨rfl, -, hN⟩, hb7⟩; have HN := Lib.hid hN; clear hN))
  go_ret
  exact ⟨⟨_, rfl, HH.out _ _ HN.out⟩, by (repeat (first | (with_reducible exact Below.refl _ _) | (with_reducible assumption) | (with_reducible apply bl_alloc) | (with_reducible apply bl_iter) | (with_reducible apply bl_drew) | (with_reducible apply bl_drewN) | (with_reducible refine bl_set ?_ (by first | assumption | (simp; done) | omega | (simp; omega)) _) | (with_reducible refine bl_then ?_ (by with_reducible assumption))))⟩
end Go.Proofs.YtcjplgcnjfinoaaDoor
