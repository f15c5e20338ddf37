/- Contracts of weld.both (whole), weld.Join, rope.both, exact. Conditions: the tables hold what their text lays. -/
import Derived.Test.YtcjplgcnjfinoaaDoorWeldG1
import Derived.Test.YtcjplgcnjfinoaaDoorWeldG2
import Derived.Test.YtcjplgcnjfinoaaDoorWeldG3
import Derived.Test.YtcjplgcnjfinoaaDoorWeldG4
namespace Go.Proofs.YtcjplgcnjfinoaaDoor
open Go.RowKit Go.Shelf Go.Proofs.YtcjplgcnjfinoaaDoorW.PrintWords Go.Proofs.YtcjplgcnjfinoaaDoorW.PrintMore
attribute [local go_sem] max2_int min2_int max_two min_two

theorem both_any (a b : Wd) (ha : a.near) (hb : b.near) (w : World) (he : Env w) :
    Calls Tryd.prog 90 #[.agg #[.int .i64 a.b, .int .i64 a.r, .int .i64 a.u, .int .i64 a.e, .string a.hd, .string a.tl], .agg #[.int .i64 b.b, .int .i64 b.r, .int .i64 b.u, .int .i64 b.e, .string b.hd, .string b.tl]] w fun e w' => (∃ s0 s1 s2 s3 : Int, e = .returned (.tuple #[.agg #[.int .i64 (joinE a b).1.b, .int .i64 (joinE a b).1.r, .int .i64 (joinE a b).1.u, .int .i64 (joinE a b).1.e, .string (joinE a b).1.hd, .string (joinE a b).1.tl], .agg #[.int .i64 s0, .int .i64 s1, .int .i64 s2, .int .i64 s3], .int .i64 (joinE a b).2])) ∧ Below w.heap.size w w' := by
  unfold joinE
  by_cases hg : (a.good && b.good) = false
  · rw [if_pos hg]
    exact (both_bad a b ha hb hg w he).mono fun e w' h => ⟨⟨0, 0, 0, 0, h.1⟩, h.2⟩
  · rw [if_neg hg]
    have hg : (a.good && b.good) = true := by simpa using hg
    by_cases hl : 268435456 < a.b + b.b
    · rw [if_pos hl]
      exact (both_long a b ha hb hg hl w he).mono fun e w' h => ⟨⟨0, 0, 0, 0, h.1⟩, h.2⟩
    · rw [if_neg hl]
      have hl : a.b + b.b ≤ 268435456 := by omega
      have F : Calls Tryd.prog 90 #[.agg #[.int .i64 a.b, .int .i64 a.r, .int .i64 a.u, .int .i64 a.e, .string a.hd, .string a.tl], .agg #[.int .i64 b.b, .int .i64 b.r, .int .i64 b.u, .int .i64 b.e, .string b.hd, .string b.tl]] w fun e w' => (((addW a b).good = true → e = .returned (.tuple #[.agg #[.int .i64 (addW a b).b, .int .i64 (addW a b).r, .int .i64 (addW a b).u, .int .i64 (addW a b).e, .string (addW a b).hd, .string (addW a b).tl], .agg #[.int .i64 0, .int .i64 (allS a b a.tl.size).1, .int .i64 (allS a b a.tl.size).2, .int .i64 (seamEnd a b)], .int .i64 0])) ∧
          ((addW a b).good = false → e = .returned (.tuple #[(.agg #[.int .i64 0, .int .i64 0, .int .i64 0, .int .i64 0, .string ⟨#[]⟩, .string ⟨#[]⟩]), .agg #[.int .i64 0, .int .i64 0, .int .i64 0, .int .i64 0], .int .i64 50]))) ∧ Below w.heap.size w w' := by
        by_cases c3 : a.b < 3
        · by_cases c4 : b.b < 3
          · exact both_fine1 a b c3 c4 hg hl w he
          · exact both_fine2 a b c3 c4 hg hl w he
        · by_cases c4 : b.b < 3
          · exact both_fine3 a b c3 c4 hg hl w he
          · exact both_fine4 a b c3 c4 hg hl w he
      by_cases hX : (addW a b).good = true
      · rw [if_pos hX]
        exact F.mono fun e w' h => ⟨⟨_, _, _, _, h.1.1 hX⟩, h.2⟩
      · rw [if_neg hX]
        exact F.mono fun e w' h => ⟨⟨_, _, _, _, h.1.2 (by simpa using hX)⟩, h.2⟩

set_option maxRecDepth 100000 in
set_option maxHeartbeats 1000000 in
theorem weldJoin_any (a b : Wd) (ha : a.near) (hb : b.near) (w : World) (he : Env w) :
    Calls Tryd.prog 84 #[.agg #[.int .i64 a.b, .int .i64 a.r, .int .i64 a.u, .int .i64 a.e, .string a.hd, .string a.tl], .agg #[.int .i64 b.b, .int .i64 b.r, .int .i64 b.u, .int .i64 b.e, .string b.hd, .string b.tl]] w fun e w' => e = .returned (.tuple #[.agg #[.int .i64 (joinE a b).1.b, .int .i64 (joinE a b).1.r, .int .i64 (joinE a b).1.u, .int .i64 (joinE a b).1.e, .string (joinE a b).1.hd, .string (joinE a b).1.tl], .int .i64 (joinE a b).2]) ∧ Below w.heap.size w w' := by
  have HE := Lib.hid he
  have hB := fun w he => both_any a b ha hb w he
  generalize (joinE a b).1 = m at *
  generalize (joinE a b).2 = c at *
  clear he ha hb
  go_enter Tryd.func84, Tryd.ntmps84
  go_wp2_with (go_at_call 90; refine (hB _ (HE.out.below (by (repeat (first | (with_reducible exact Below.refl _ _) | (with_reducible assumption) | (with_reducible apply bl_alloc) | (with_reducible apply bl_iter) | (with_reducible apply bl_drew) | (with_reducible apply bl_drewN) | (with_reducible refine bl_set ?_ (by first | assumption | (simp; done) | omega | (simp; omega)) _) | (with_reducible refine bl_then ?_ (by with_reducible assumption))))))).mono ?_; clear hB; rintro e w1 ⟨⟨s0, s1, s2, s3, rfl⟩, hb1⟩; obtain ⟨hcl, hfr⟩ := bcell hb1; obtain ⟨z0, z1, z2⟩ : w.heap.size < w1.heap.size ∧ w.heap.size + 1 < w1.heap.size ∧ w.heap.size + 1 + 1 < w1.heap.size := by have hz := hb1.size; (try simp at hz); omega)
  exact bodyPost_ret (by simp [results, Tryd.results84, go_sem, *]) rfl ⟨rfl, by (repeat (first | (with_reducible exact Below.refl _ _) | (with_reducible assumption) | (with_reducible apply bl_alloc) | (with_reducible apply bl_iter) | (with_reducible apply bl_drew) | (with_reducible apply bl_drewN) | (with_reducible refine bl_set ?_ (by first | assumption | (simp; done) | omega | (simp; omega)) _) | (with_reducible refine bl_then ?_ (by with_reducible assumption))))⟩
set_option maxRecDepth 100000 in
set_option maxHeartbeats 1000000 in
theorem ropeBoth_any (a b : Wd) (ha : a.near) (hb : b.near) (w : World) (he : Env w) :
    Calls Tryd.prog 80 #[.agg #[.int .i64 a.b, .int .i64 a.r, .int .i64 a.u, .int .i64 a.e, .string a.hd, .string a.tl], .agg #[.int .i64 b.b, .int .i64 b.r, .int .i64 b.u, .int .i64 b.e, .string b.hd, .string b.tl]] w fun e w' => e = .returned (.agg #[.int .i64 (joinE a b).1.b, .int .i64 (joinE a b).1.r, .int .i64 (joinE a b).1.u, .int .i64 (joinE a b).1.e, .string (joinE a b).1.hd, .string (joinE a b).1.tl]) ∧ Below w.heap.size w w' := by
  have HE := Lib.hid he
  have hB := fun w he => weldJoin_any a b ha hb w he
  generalize (joinE a b).1 = m at *
  generalize (joinE a b).2 = c at *
  clear he ha hb
  go_enter Tryd.func80, Tryd.ntmps80
  go_wp2_with (go_at_call 84; refine (hB _ (HE.out.below (by (repeat (first | (with_reducible exact Below.refl _ _) | (with_reducible assumption) | (with_reducible apply bl_alloc) | (with_reducible apply bl_iter) | (with_reducible apply bl_drew) | (with_reducible apply bl_drewN) | (with_reducible refine bl_set ?_ (by first | assumption | (simp; done) | omega | (simp; omega)) _) | (with_reducible refine bl_then ?_ (by with_reducible assumption))))))).mono ?_; clear hB; rintro e w1 ⟨rfl, hb1⟩; obtain ⟨hcl, hfr⟩ := bcell hb1; obtain ⟨z0, z1, z2⟩ : w.heap.size < w1.heap.size ∧ w.heap.size + 1 < w1.heap.size ∧ w.heap.size + 1 + 1 < w1.heap.size := by have hz := hb1.size; (try simp at hz); omega)
  exact bodyPost_ret (by simp [results, Tryd.results80, go_sem, *]) rfl ⟨rfl, by (repeat (first | (with_reducible exact Below.refl _ _) | (with_reducible assumption) | (with_reducible apply bl_alloc) | (with_reducible apply bl_iter) | (with_reducible apply bl_drew) | (with_reducible apply bl_drewN) | (with_reducible refine bl_set ?_ (by first | assumption | (simp; done) | omega | (simp; omega)) _) | (with_reducible refine bl_then ?_ (by with_reducible assumption))))⟩
end Go.Proofs.YtcjplgcnjfinoaaDoor
