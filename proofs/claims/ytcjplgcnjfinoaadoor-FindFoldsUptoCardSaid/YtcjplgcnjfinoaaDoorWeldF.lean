/- Contracts of weld.both, weld.Join, rope.both, exact. Conditions: the tables hold what their text lays. -/
import Derived.Test.YtcjplgcnjfinoaaDoorWeldE
namespace Go.Proofs.YtcjplgcnjfinoaaDoor
open Go.RowKit Go.Shelf Go.Proofs.YtcjplgcnjfinoaaDoorW.PrintWords Go.Proofs.YtcjplgcnjfinoaaDoorW.PrintMore
attribute [local go_sem] max2_int min2_int max_two min_two
attribute [local go_sem ↓] Go.wp_at_zero Go.wp_at_succ

set_option maxRecDepth 100000 in
set_option maxHeartbeats 2000000 in
theorem both_bad (a b : Wd) (ha : a.near) (hb : b.near) (hg : (a.good && b.good) = false) (w : World) (he : Env w) :
    Calls Tryd.prog 90 #[.agg #[.int .i64 a.b, .int .i64 a.r, .int .i64 a.u, .int .i64 a.e, .string a.hd, .string a.tl], .agg #[.int .i64 b.b, .int .i64 b.r, .int .i64 b.u, .int .i64 b.e, .string b.hd, .string b.tl]] w fun e w' => e = .returned (.tuple #[(.agg #[.int .i64 0, .int .i64 0, .int .i64 0, .int .i64 0, .string ⟨#[]⟩, .string ⟨#[]⟩]), .agg #[.int .i64 0, .int .i64 0, .int .i64 0, .int .i64 0], .int .i64 50]) ∧ Below w.heap.size w w' := by
  have hVa := fun w h => Valid_any a ha w h
  have hVb := fun w h => Valid_any b hb w h
  have HE := Lib.hid he
  clear he ha hb
  cases hga : a.good
  · rw [hga] at hVa
    clear hg hga
    go_enter Tryd.func90, Tryd.ntmps90
    go_wp2_with (go_at_call 95; refine (hVa _ (HE.out.below (by (repeat (first | (with_reducible exact Below.refl _ _) | (with_reducible assumption) | (with_reducible apply bl_alloc) | (with_reducible apply bl_iter) | (with_reducible apply bl_drew) | (with_reducible apply bl_drewN) | (with_reducible refine bl_set ?_ (by first | assumption | (simp; done) | omega | (simp; omega)) _) | (with_reducible refine bl_then ?_ (by with_reducible assumption))))))).mono ?_; rintro e w1 ⟨rfl, hb1⟩; obtain ⟨hcl, hfr⟩ := bcell hb1)
    exact bodyPost_ret (by simp [results, Tryd.results90, go_sem, *]) rfl ⟨rfl, by (repeat (first | (with_reducible exact Below.refl _ _) | (with_reducible assumption) | (with_reducible apply bl_alloc) | (with_reducible apply bl_iter) | (with_reducible apply bl_drew) | (with_reducible apply bl_drewN) | (with_reducible refine bl_set ?_ (by first | assumption | (simp; done) | omega | (simp; omega)) _) | (with_reducible refine bl_then ?_ (by with_reducible assumption))))⟩
  · rw [hga, Bool.true_and] at hg
    rw [hga] at hVa
    rw [hg] at hVb
    clear hg hga
    go_enter Tryd.func90, Tryd.ntmps90
    go_wp2_with (first | (go_at_call 95; refine (hVa _ (HE.out.below (by (repeat (first | (with_reducible exact Below.refl _ _) | (with_reducible assumption) | (with_reducible apply bl_alloc) | (with_reducible apply bl_iter) | (with_reducible apply bl_drew) | (with_reducible apply bl_drewN) | (with_reducible refine bl_set ?_ (by first | assumption | (simp; done) | omega | (simp; omega)) _) | (with_reducible refine bl_then ?_ (by with_reducible assumption))))))).mono ?_; clear hVa; rintro e w1 ⟨rfl, hb1⟩; obtain ⟨hcl, hfr⟩ := bcell hb1; obtain ⟨z0, z1, z2, z3⟩ : w.heap.size < w1.heap.size ∧ w.heap.size + 1 < w1.heap.size ∧ w.heap.size + 1 + 1 < w1.heap.size ∧ w.heap.size + 1 + 1 + 1 < w1.heap.size := by have hz := hb1.size; (try simp at hz); omega) | (go_at_call 95; refine (hVb _ (HE.out.below (by (repeat (first | (with_reducible exact Below.refl _ _) | (with_reducible assumption) | (with_reducible apply bl_alloc) | (with_reducible apply bl_iter) | (with_reducible apply bl_drew) | (with_reducible apply bl_drewN) | (with_reducible refine bl_set ?_ (by first | assumption | (simp; done) | omega | (simp; omega)) _) | (with_reducible refine bl_then ?_ (by with_reducible assumption))))))).mono ?_; rintro e w2 ⟨rfl, hb2⟩; obtain ⟨hcl2, hfr2⟩ := bcell hb2))
    exact bodyPost_ret (by simp [results, Tryd.results90, go_sem, *]) rfl ⟨rfl, by (repeat (first | (with_reducible exact Below.refl _ _) | (with_reducible assumption) | (with_reducible apply bl_alloc) | (with_reducible apply bl_iter) | (with_reducible apply bl_drew) | (with_reducible apply bl_drewN) | (with_reducible refine bl_set ?_ (by first | assumption | (simp; done) | omega | (simp; omega)) _) | (with_reducible refine bl_then ?_ (by with_reducible assumption))))⟩

set_option maxRecDepth 100000 in
set_option maxHeartbeats 2000000 in
theorem both_long (a b : Wd) (ha : a.near) (hb : b.near) (hg : (a.good && b.good) = true) (hl : 268435456 < a.b + b.b) (w : World) (he : Env w) :
    Calls Tryd.prog 90 #[.agg #[.int .i64 a.b, .int .i64 a.r, .int .i64 a.u, .int .i64 a.e, .string a.hd, .string a.tl], .agg #[.int .i64 b.b, .int .i64 b.r, .int .i64 b.u, .int .i64 b.e, .string b.hd, .string b.tl]] w fun e w' => e = .returned (.tuple #[(.agg #[.int .i64 0, .int .i64 0, .int .i64 0, .int .i64 0, .string ⟨#[]⟩, .string ⟨#[]⟩]), .agg #[.int .i64 0, .int .i64 0, .int .i64 0, .int .i64 0], .int .i64 5]) ∧ Below w.heap.size w w' := by
  have hVa := fun w h => Valid_any a ha w h
  have hVb := fun w h => Valid_any b hb w h
  obtain ⟨⟨n0, n1⟩, -⟩ := ha
  obtain ⟨⟨n2, n3⟩, -⟩ := hb
  have HE := Lib.hid he
  clear he
  rw [Bool.and_eq_true] at hg
  obtain ⟨hga, hgb⟩ := hg
  rw [hga] at hVa
  rw [hgb] at hVb
  clear hga hgb
  go_enter Tryd.func90, Tryd.ntmps90
  go_wp2_with (first | (go_at_call 95; refine (hVa _ (HE.out.below (by (repeat (first | (with_reducible exact Below.refl _ _) | (with_reducible assumption) | (with_reducible apply bl_alloc) | (with_reducible apply bl_iter) | (with_reducible apply bl_drew) | (with_reducible apply bl_drewN) | (with_reducible refine bl_set ?_ (by first | assumption | (simp; done) | omega | (simp; omega)) _) | (with_reducible refine bl_then ?_ (by with_reducible assumption))))))).mono ?_; clear hVa; rintro e w1 ⟨rfl, hb1⟩; obtain ⟨hcl, hfr⟩ := bcell hb1; obtain ⟨z0, z1, z2, z3⟩ : w.heap.size < w1.heap.size ∧ w.heap.size + 1 < w1.heap.size ∧ w.heap.size + 1 + 1 < w1.heap.size ∧ w.heap.size + 1 + 1 + 1 < w1.heap.size := by have hz := hb1.size; (try simp at hz); omega) | (go_at_call 95; refine (hVb _ (HE.out.below (by (repeat (first | (with_reducible exact Below.refl _ _) | (with_reducible assumption) | (with_reducible apply bl_alloc) | (with_reducible apply bl_iter) | (with_reducible apply bl_drew) | (with_reducible apply bl_drewN) | (with_reducible refine bl_set ?_ (by first | assumption | (simp; done) | omega | (simp; omega)) _) | (with_reducible refine bl_then ?_ (by with_reducible assumption))))))).mono ?_; rintro e w2 ⟨rfl, hb2⟩; obtain ⟨hcl2, hfr2⟩ := bcell hb2))
  exact bodyPost_ret (by simp [results, Tryd.results90, go_sem, *]) rfl ⟨rfl, by (repeat (first | (with_reducible exact Below.refl _ _) | (with_reducible assumption) | (with_reducible apply bl_alloc) | (with_reducible apply bl_iter) | (with_reducible apply bl_drew) | (with_reducible apply bl_drewN) | (with_reducible refine bl_set ?_ (by first | assumption | (simp; done) | omega | (simp; omega)) _) | (with_reducible refine bl_then ?_ (by with_reducible assumption))))⟩
end Go.Proofs.YtcjplgcnjfinoaaDoor
