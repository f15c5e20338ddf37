/- FindNil's walk: the law answers true, whatever came in. -/
import Derived.Test.YtcjplgcnjfinoaaDoorLawA
namespace Go.Proofs.YtcjplgcnjfinoaaDoor
open Go.RowKit Go.Shelf Go.Proofs.YtcjplgcnjfinoaaDoorW.PrintWords Go.Proofs.YtcjplgcnjfinoaaDoorW.PrintMore
attribute [local go_sem] max2_int min2_int max_two min_two

set_option maxRecDepth 100000 in
set_option maxHeartbeats 8000000 in
theorem findNil_walk (A : Option Addr) (n c : Nat) (xs : List Int) (B : Option Addr) (m d : Nat) (ys : List Int) (p : Int) (w : World) (he : Env w) (hr : ReadsInt w .u8 A n xs) (_ : n ≤ c) (_ : ∀ i, 0 ≤ xs.getD i 0 ∧ xs.getD i 0 ≤ 255) (hn : n ≤ 1048576) (hr' : ReadsInt w .u8 B m ys) (_ : m ≤ d) (_ : ∀ i, 0 ≤ ys.getD i 0 ∧ ys.getD i 0 ≤ 255) (hm : m ≤ 1048576) (_ : (Lit.int .i64 p).wf = true) :
    Calls Tryd.prog 8 #[.slice A n c, .slice B m d, .int .i64 p] w fun e w' => e = .returned (.bool true) ∧ Below w.heap.size w w' := by
  have HE := Lib.hid (fun W (hb : Below w.heap.size w W) => he.below hb)
  have HX := Lib.hid (fun W (hb : Below w.heap.size w W) => own_any A n c xs W (hr.below hb) (by omega))
  have HY := Lib.hid (fun W (hb : Below w.heap.size w W) => own_any B m d ys W (hr'.below hb) (by omega))
  have HA := Lib.hid (awake_any w he)
  have HR := Lib.hid (fun W (hb : Below w.heap.size w W) => RopeOf_any none 0 0 [] W (he.below hb) (rowsAt_nil W) (by decide))
  clear he hr hr'
  go_enter Tryd.func8, Tryd.ntmps8
  go_wp2_with (first
    | (go_at_call 11; with_reducible refine HA.out.mono ?_; clear HA; rintro e w1 ⟨rfl, hb1⟩)
    | (go_at_call 14; first | (with_reducible refine (HX.out _ (by (repeat (first | (with_reducible exact Below.refl _ _) | (with_reducible assumption) | (with_reducible apply bl_alloc) | (with_reducible apply bl_iter) | (with_reducible apply bl_drew) | (with_reducible apply bl_drewN) | (with_reducible refine bl_set ?_ (by first | assumption | (simp; done) | omega | (simp; omega)) _) | (with_reducible refine bl_then ?_ (by with_reducible assumption)))))).mono ?_; rintro e wo ⟨⟨Bo, do_, rfl, -, -, -⟩, hbo⟩) | (with_reducible refine (HY.out _ (by (repeat (first | (with_reducible exact Below.refl _ _) | (with_reducible assumption) | (with_reducible apply bl_alloc) | (with_reducible apply bl_iter) | (with_reducible apply bl_drew) | (with_reducible apply bl_drewN) | (with_reducible refine bl_set ?_ (by first | assumption | (simp; done) | omega | (simp; omega)) _) | (with_reducible refine bl_then ?_ (by with_reducible assumption)))))).mono ?_; rintro e wo ⟨⟨Bo, do_, rfl, -, -, -⟩, hbo⟩))
    | (go_at_call 15; with_reducible refine (All_nil _ _ _).mono ?_; rintro e w2 ⟨rfl, hb2⟩)
    | (go_at_call 17; with_reducible refine (Next_nil _ _ _ _).mono ?_; rintro e w3 ⟨rfl, hb3⟩)
    | (go_at_call 21; with_reducible refine (Prev_nil _ _ _ _).mono ?_; rintro e w4 ⟨rfl, hb4⟩)
    | (go_at_call 27; with_reducible refine (Replace_nil _ _ _ _).mono ?_; rintro e w5 ⟨rfl, hb5⟩)
    | (go_at_call 19; with_reducible refine (Count_nil _ _ _).mono ?_; rintro e w6 ⟨rfl, hb6⟩)
    | (go_at_call 13; with_reducible refine (HR.out _ (by (repeat (first | (with_reducible exact Below.refl _ _) | (with_reducible assumption) | (with_reducible apply bl_alloc) | (with_reducible apply bl_iter) | (with_reducible apply bl_drew) | (with_reducible apply bl_drewN) | (with_reducible refine bl_set ?_ (by first | assumption | (simp; done) | omega | (simp; omega)) _) | (with_reducible refine bl_then ?_ (by with_reducible assumption)))))).mono ?_; clear HR; rintro e w7 ⟨⟨r, rfl, -, -⟩, hb7⟩)
    | (go_at_call 17; with_reducible refine (Next_empty _ _ _ _ _ _).mono ?_; rintro e w8 ⟨rfl, hb8⟩))
  go_ret
  exact ⟨rfl, by (repeat (first | (with_reducible exact Below.refl _ _) | (with_reducible assumption) | (with_reducible apply bl_alloc) | (with_reducible apply bl_iter) | (with_reducible apply bl_drew) | (with_reducible apply bl_drewN) | (with_reducible refine bl_set ?_ (by first | assumption | (simp; done) | omega | (simp; omega)) _) | (with_reducible refine bl_then ?_ (by with_reducible assumption))))⟩
end Go.Proofs.YtcjplgcnjfinoaaDoor
