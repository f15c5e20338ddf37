/- FindFolds' walk: the law answers true, whatever came in. -/
import Derived.Test.YtcjplgcnjfinoaaDoorSame
import Derived.Test.YtcjplgcnjfinoaaDoorFindP
namespace Go.Proofs.YtcjplgcnjfinoaaDoor
open Go.RowKit Go.Shelf Go.Proofs.YtcjplgcnjfinoaaDoorW.PrintWords Go.Proofs.YtcjplgcnjfinoaaDoorW.PrintMore
attribute [local go_sem] max2_int min2_int max_two min_two

/-- The first k letters turned about. -/
def turnUpto (k : Nat) (ns : List Int) : List Int := (ns.take k).map turnI ++ ns.drop k
theorem turnUpto_length (k : Nat) (ns : List Int) : (turnUpto k ns).length = ns.length := by
  unfold turnUpto
  rw [List.length_append, List.length_map, ← List.length_append, List.take_append_drop]
theorem turnUpto_get (k : Nat) (ns : List Int) (hk : k < ns.length) : (turnUpto k ns).getD k 0 = ns.getD k 0 := by
  unfold turnUpto
  rw [List.getD_eq_getElem?_getD, List.getElem?_append_right (by rw [List.length_map, List.length_take]; omega), List.length_map, List.length_take, List.getElem?_drop, List.getD_eq_getElem?_getD]
  congr 2
  omega
theorem turnUpto_step (k : Nat) (ns : List Int) (hk : k < ns.length) : (turnUpto k ns).set k (turnI (ns.getD k 0)) = turnUpto (k + 1) ns := by
  apply List.ext_getElem?
  intro i
  unfold turnUpto
  rw [List.getElem?_set]
  split
  · rename_i h
    subst h
    rw [if_pos (by rw [List.length_append, List.length_map, ← List.length_append, List.take_append_drop]; exact hk), List.getElem?_append_left (by rw [List.length_map, List.length_take]; omega), List.getElem?_map, List.getElem?_take, if_pos (by omega), List.getD_eq_getElem?_getD, List.getElem?_eq_getElem hk]
    rfl
  · rename_i h
    rcases Nat.lt_or_ge i k with hi | hi
    · rw [List.getElem?_append_left (by rw [List.length_map, List.length_take]; omega), List.getElem?_append_left (by rw [List.length_map, List.length_take]; omega), List.getElem?_map, List.getElem?_map, List.getElem?_take, List.getElem?_take, if_pos hi, if_pos (by omega)]
    · rw [List.getElem?_append_right (by rw [List.length_map, List.length_take]; omega), List.getElem?_append_right (by rw [List.length_map, List.length_take]; omega), List.length_map, List.length_map, List.length_take, List.length_take, List.getElem?_drop, List.getElem?_drop]
      congr 1
      omega
theorem turnUpto_same (k : Nat) (ns : List Int) (hk : k < ns.length) (h : turnI (ns.getD k 0) = ns.getD k 0) : turnUpto k ns = turnUpto (k + 1) ns := by
  rw [← turnUpto_step k ns hk, h, ← turnUpto_get k ns hk]
  apply List.ext_getElem?
  intro i
  rw [List.getElem?_set]
  split
  · rename_i h'
    subst h'
    rw [if_pos (by rw [turnUpto_length]; exact hk), List.getD_eq_getElem?_getD, List.getElem?_eq_getElem (by rw [turnUpto_length]; exact hk)]
    rfl
  · rfl
theorem turnUpto_all (ns : List Int) : turnUpto ns.length ns = ns.map turnI := by
  unfold turnUpto
  rw [List.take_length, List.drop_length, List.append_nil]

theorem turn_range (ns : List Int) (hy : ∀ i, 0 ≤ ns.getD i 0 ∧ ns.getD i 0 ≤ 255) (i : Nat) : 0 ≤ (ns.map turnI).getD i 0 ∧ (ns.map turnI).getD i 0 ≤ 255 := by
  have h := hy i
  by_cases hi : i < ns.length
  · have e : (ns.map turnI).getD i 0 = turnI (ns.getD i 0) := by
      simp [List.getD_eq_getElem?_getD, List.getElem?_eq_getElem hi]
    rw [e]
    unfold turnI
    repeat' split
    all_goals omega
  · rw [List.getD_eq_getElem?_getD, List.getElem?_eq_none (by simpa using hi)]
    simp
theorem nextHit_miss {fold : Bool} {xs ns : List Int} {p : Nat} (h : nextI fold xs ns p = -1) : nextHit fold xs ns p = .tuple #[.agg #[.int .i64 0, .int .i64 0], .bool false, .int .i64 0] := by
  unfold nextHit; rw [h]; rfl
theorem nextHit_hit {fold : Bool} {xs ns : List Int} {p k : Nat} (h : nextI fold xs ns p = k) : nextHit fold xs ns p = .tuple #[.agg #[.int .i64 k, .int .i64 ((k : Int) + ns.length)], .bool true, .int .i64 0] := by
  unfold nextHit; rw [h, if_neg (by omega)]
/-- What the two calls of a round answer. -/
theorem next_pair (xs ns : List Int) (p : Nat) : (∃ a1 b1 a2 b2 : Int, nextHit false xs ns p = .tuple #[.agg #[.int .i64 a1, .int .i64 b1], .bool false, .int .i64 0] ∧ nextHit true xs ns p = .tuple #[.agg #[.int .i64 a2, .int .i64 b2], .bool false, .int .i64 0]) ∨ (∃ a1 b1 a2 b2 : Int, nextHit false xs ns p = .tuple #[.agg #[.int .i64 a1, .int .i64 b1], .bool false, .int .i64 0] ∧ nextHit true xs ns p = .tuple #[.agg #[.int .i64 a2, .int .i64 b2], .bool true, .int .i64 0]) ∨ (∃ a1 b1 a2 b2 : Int, decide (a1 < a2) = false ∧ nextHit false xs ns p = .tuple #[.agg #[.int .i64 a1, .int .i64 b1], .bool true, .int .i64 0] ∧ nextHit true xs ns p = .tuple #[.agg #[.int .i64 a2, .int .i64 b2], .bool true, .int .i64 0]) := by
  rcases nextI_cases false xs ns p with ⟨h1, -⟩ | ⟨k, h1, -⟩
  · rcases nextI_cases true xs ns p with ⟨h2, -⟩ | ⟨j, h2, -⟩
    · exact .inl ⟨_, _, _, _, nextHit_miss h1, nextHit_miss h2⟩
    · exact .inr (.inl ⟨_, _, _, _, nextHit_miss h1, nextHit_hit h2⟩)
  · obtain ⟨j, h2, hj⟩ := next_more h1
    exact .inr (.inr ⟨_, _, _, _, by simp; omega, nextHit_hit h1, nextHit_hit h2⟩)

set_option maxRecDepth 100000 in
set_option maxHeartbeats 8000000 in
theorem findFolds_walk (A : Option Addr) (n c : Nat) (ls : List (List Int)) (B : Option Addr) (m d : Nat) (ns : List Int) (w : World) (he : Env w) (hr : RowsAt w A n ls) (_ : n ≤ c) (_ : ∀ l ∈ ls, ∀ i, 0 ≤ l.getD i 0 ∧ l.getD i 0 ≤ 255) (hf : ls.flatten.length ≤ 1048576) (hn : ReadsInt w .u8 B m ns) (hmd : m ≤ d) (hy : ∀ i, 0 ≤ ns.getD i 0 ∧ ns.getD i 0 ≤ 255) (hm : m ≤ 1048576) :
    Calls Tryd.prog 3 #[.slice A n c, .slice B m d] w fun e w' => e = .returned (.bool true) ∧ Below w.heap.size w w' := by
  obtain ⟨xs, hxs⟩ : ∃ xs, xs = ls.flatten := ⟨_, rfl⟩
  rw [← hxs] at hf
  have HE := Lib.hid (fun W (hb : Below w.heap.size w W) => he.below hb)
  have HA := Lib.hid (awake_any w he)
  have HJ := Lib.hid (fun W (hb : Below w.heap.size w W) => Joined_at A n c ls xs hxs.symm W (hr.below hb) (by omega))
  have HR := Lib.hid (fun W (hb : Below w.heap.size w W) => (hxs ▸ RopeOf_any A n c ls W (he.below hb) (hr.below hb) (by rw [← hxs]; omega) : Calls Tryd.prog 13 #[.slice A n c] W fun e w' => (∃ p, e = .returned (.pointer (some ⟨p, 0, none⟩)) ∧ W.heap.size ≤ p ∧ RopeAt w' p (strOfNums xs)) ∧ Below W.heap.size W w'))
  have HO := Lib.hid (fun W (hb : Below w.heap.size w W) => own_any B m d ns W (hn.below hb) (by omega))
  have hml : ns.length = m := hn.1
  clear he hr hxs hn
  by_cases hlong : 1500 < xs.length
  · have h1 : (1500 : Int) < (xs.length : Int) := by omega
    go_enter Tryd.func3, Tryd.ntmps3
    go_wp2_with (first
      | (go_at_call 11; with_reducible refine HA.out.mono ?_; clear HA; rintro e w1 ⟨rfl, hb1⟩)
      | (go_at_call 12; with_reducible refine (HJ.out _ (by (repeat (first | (with_reducible exact Below.refl _ _) | (with_reducible assumption) | (with_reducible apply bl_alloc) | (with_reducible apply bl_iter) | (with_reducible apply bl_drew) | (with_reducible apply bl_drewN) | (with_reducible refine bl_set ?_ (by first | assumption | (simp; done) | omega | (simp; omega)) _) | (with_reducible refine bl_then ?_ (by with_reducible assumption)))))).mono ?_; clear HJ; rintro e w2 ⟨⟨Bj, dj, rfl, -, -⟩, hb2⟩))
    go_ret
    exact ⟨rfl, by (repeat (first | (with_reducible exact Below.refl _ _) | (with_reducible assumption) | (with_reducible apply bl_alloc) | (with_reducible apply bl_iter) | (with_reducible apply bl_drew) | (with_reducible apply bl_drewN) | (with_reducible refine bl_set ?_ (by first | assumption | (simp; done) | omega | (simp; omega)) _) | (with_reducible refine bl_then ?_ (by with_reducible assumption))))⟩
  by_cases hzero : m = 0
  · subst hzero
    have h1 : ¬ (1500 : Int) < (xs.length : Int) := by omega
    go_enter Tryd.func3, Tryd.ntmps3
    go_wp2_with (first
      | (go_at_call 11; with_reducible refine HA.out.mono ?_; clear HA; rintro e w1 ⟨rfl, hb1⟩)
      | (go_at_call 12; with_reducible refine (HJ.out _ (by (repeat (first | (with_reducible exact Below.refl _ _) | (with_reducible assumption) | (with_reducible apply bl_alloc) | (with_reducible apply bl_iter) | (with_reducible apply bl_drew) | (with_reducible apply bl_drewN) | (with_reducible refine bl_set ?_ (by first | assumption | (simp; done) | omega | (simp; omega)) _) | (with_reducible refine bl_then ?_ (by with_reducible assumption)))))).mono ?_; clear HJ; rintro e w2 ⟨⟨Bj, dj, rfl, -, -⟩, hb2⟩))
    go_ret
    exact ⟨rfl, by (repeat (first | (with_reducible exact Below.refl _ _) | (with_reducible assumption) | (with_reducible apply bl_alloc) | (with_reducible apply bl_iter) | (with_reducible apply bl_drew) | (with_reducible apply bl_drewN) | (with_reducible refine bl_set ?_ (by first | assumption | (simp; done) | omega | (simp; omega)) _) | (with_reducible refine bl_then ?_ (by with_reducible assumption))))⟩
  have h1 : decide ((1500 : Int) < (xs.length : Int)) = false := by simp; omega
  have h2 : ((m : Int) == 0) = false := by simp; omega
  go_enter Tryd.func3, Tryd.ntmps3
  go_wp2_with (first
    | (go_at_call 11; with_reducible refine HA.out.mono ?_; clear HA; rintro e w1 ⟨rfl, hb1⟩)
    | (go_at_call 12; with_reducible refine (HJ.out _ (by (repeat (first | (with_reducible exact Below.refl _ _) | (with_reducible assumption) | (with_reducible apply bl_alloc) | (with_reducible apply bl_iter) | (with_reducible apply bl_drew) | (with_reducible apply bl_drewN) | (with_reducible refine bl_set ?_ (by first | assumption | (simp; done) | omega | (simp; omega)) _) | (with_reducible refine bl_then ?_ (by with_reducible assumption)))))).mono ?_; clear HJ; rintro e w2 ⟨⟨Bj, dj, rfl, -, -⟩, hb2⟩)
    | (go_at_call 13; with_reducible refine (HR.out _ (by (repeat (first | (with_reducible exact Below.refl _ _) | (with_reducible assumption) | (with_reducible apply bl_alloc) | (with_reducible apply bl_iter) | (with_reducible apply bl_drew) | (with_reducible apply bl_drewN) | (with_reducible refine bl_set ?_ (by first | assumption | (simp; done) | omega | (simp; omega)) _) | (with_reducible refine bl_then ?_ (by with_reducible assumption)))))).mono ?_; clear HR; rintro e w3 ⟨⟨r, rfl, -, hR⟩, hb3⟩; have HRo := Lib.hid hR; clear hR; have hw3 : Below w.heap.size w w3 := by (repeat (first | (with_reducible exact Below.refl _ _) | (with_reducible assumption) | (with_reducible apply bl_alloc) | (with_reducible apply bl_iter) | (with_reducible apply bl_drew) | (with_reducible apply bl_drewN) | (with_reducible refine bl_set ?_ (by first | assumption | (simp; done) | omega | (simp; omega)) _) | (with_reducible refine bl_then ?_ (by with_reducible assumption)))))
    | (go_at_call 14; with_reducible refine (HO.out _ hw3).mono ?_; rintro e w4 ⟨⟨Bo, do_, rfl, ho1, ho2, -⟩, hb4⟩; have HOw := Lib.hid ho2; clear ho2))
  obtain ⟨g, cap, ef, hg1, hg2⟩ := HOw.out.form (by omega)
  cases ef
  have hb4' : Below w.heap.size w w4 := by (repeat (first | (with_reducible exact Below.refl _ _) | (with_reducible assumption) | (with_reducible apply bl_alloc) | (with_reducible apply bl_iter) | (with_reducible apply bl_drew) | (with_reducible apply bl_drewN) | (with_reducible refine bl_set ?_ (by first | assumption | (simp; done) | omega | (simp; omega)) _) | (with_reducible refine bl_then ?_ (by with_reducible assumption))))
  clear hb1 hb2 hb3
  go_loopw [41] (fun v wr => ∃ k : Nat, k ≤ m ∧ v = .int .i64 k ∧ wr.ownsRow w3.heap.size 5 1 (.slice (some ⟨g, 0, none⟩) m do_) m (nums .u8 (turnUpto k ns)) ∧ Below w3.heap.size w3 wr) (fun v _ => m - (intOf v).toNat)
  case atStart => exact ⟨0, Nat.zero_le _, rfl, HOw.out, hb4⟩
  case round =>
    obtain ⟨k, hk, rfl, hown, hbl⟩ := hrel
    by_cases hlt : k < m
    · have hlt' : (k : Int) < m := by omega
      have g0 : (0 : Int) ≤ (k : Int) := by omega
      obtain ⟨hcell, hfroz⟩ := own_at hown k (by omega) hlt'
      have hrd : rd (turnUpto k ns) (k : Int) = ns.getD k 0 := turnUpto_get k ns (by omega)
      rw [hrd] at hcell
      simp only [Int.toNat_natCast] at hcell hfroz
      have hst := turnUpto_step k ns (by omega)
      have hsm := turnUpto_same k ns (by omega)
      have hyk := hy k
      have HOS := Lib.hid hown
      clear hown HO HE hrd HOw HRo
      generalize ns.getD k 0 = ch at *
      by_cases hl1 : 97 ≤ ch
      · by_cases hl2 : ch ≤ 122
        · have hxor := xor_turn ch (.inl ⟨hl1, hl2⟩)
          have HS := Lib.hid (own_store HOS.out k (turnI ch)).1
          rw [Int.toNat_natCast, hst] at HS
          go_wp2
          go_roundw
          case rel => exact ⟨k + 1, by omega, by go_num, HS.out, by (repeat (first | (with_reducible exact Below.refl _ _) | (with_reducible assumption) | (with_reducible apply bl_alloc) | (with_reducible apply bl_iter) | (with_reducible apply bl_drew) | (with_reducible apply bl_drewN) | (with_reducible refine bl_set ?_ (by first | assumption | (simp; done) | omega | (simp; omega)) _) | (with_reducible refine bl_then ?_ (by with_reducible assumption))))⟩
          case measure => simp [intOf]; omega
        · have hl3 : 65 ≤ ch := by omega
          have hl4 : ¬ ch ≤ 90 := by omega
          have HS := Lib.hid (hsm (by unfold turnI; rw [if_neg (by omega), if_neg (by omega)]) ▸ HOS.out)
          go_wp2
          go_roundw
          case rel => exact ⟨k + 1, by omega, by go_num, HS.out, by (repeat (first | (with_reducible exact Below.refl _ _) | (with_reducible assumption) | (with_reducible apply bl_alloc) | (with_reducible apply bl_iter) | (with_reducible apply bl_drew) | (with_reducible apply bl_drewN) | (with_reducible refine bl_set ?_ (by first | assumption | (simp; done) | omega | (simp; omega)) _) | (with_reducible refine bl_then ?_ (by with_reducible assumption))))⟩
          case measure => simp [intOf]; omega
      · by_cases hl3 : 65 ≤ ch
        · by_cases hl4 : ch ≤ 90
          · have hxor := xor_turn ch (.inr ⟨hl3, hl4⟩)
            have HS := Lib.hid (own_store HOS.out k (turnI ch)).1
            rw [Int.toNat_natCast, hst] at HS
            go_wp2
            go_roundw
            case rel => exact ⟨k + 1, by omega, by go_num, HS.out, by (repeat (first | (with_reducible exact Below.refl _ _) | (with_reducible assumption) | (with_reducible apply bl_alloc) | (with_reducible apply bl_iter) | (with_reducible apply bl_drew) | (with_reducible apply bl_drewN) | (with_reducible refine bl_set ?_ (by first | assumption | (simp; done) | omega | (simp; omega)) _) | (with_reducible refine bl_then ?_ (by with_reducible assumption))))⟩
            case measure => simp [intOf]; omega
          · have HS := Lib.hid (hsm (by unfold turnI; rw [if_neg (by omega), if_neg (by omega)]) ▸ HOS.out)
            go_wp2
            go_roundw
            case rel => exact ⟨k + 1, by omega, by go_num, HS.out, by (repeat (first | (with_reducible exact Below.refl _ _) | (with_reducible assumption) | (with_reducible apply bl_alloc) | (with_reducible apply bl_iter) | (with_reducible apply bl_drew) | (with_reducible apply bl_drewN) | (with_reducible refine bl_set ?_ (by first | assumption | (simp; done) | omega | (simp; omega)) _) | (with_reducible refine bl_then ?_ (by with_reducible assumption))))⟩
            case measure => simp [intOf]; omega
        · have HS := Lib.hid (hsm (by unfold turnI; rw [if_neg (by omega), if_neg (by omega)]) ▸ HOS.out)
          go_wp2
          go_roundw
          case rel => exact ⟨k + 1, by omega, by go_num, HS.out, by (repeat (first | (with_reducible exact Below.refl _ _) | (with_reducible assumption) | (with_reducible apply bl_alloc) | (with_reducible apply bl_iter) | (with_reducible apply bl_drew) | (with_reducible apply bl_drewN) | (with_reducible refine bl_set ?_ (by first | assumption | (simp; done) | omega | (simp; omega)) _) | (with_reducible refine bl_then ?_ (by with_reducible assumption))))⟩
          case measure => simp [intOf]; omega
    · obtain rfl : k = m := by omega
      have hge : ¬ (k : Int) < (k : Int) := by omega
      have e1 : turnUpto k ns = ns.map turnI := by rw [← hml]; exact turnUpto_all ns
      rw [e1] at hown
      obtain ⟨A2, c2, e2, hrt⟩ := own_reads hown
      cases e2
      have HT := Lib.hid hrt
      have hsz : (strOfNums xs).size ≤ 268435456 := by rw [strOfNums_size]; omega
      have hyt := turn_range ns hy
      have hwr : Below w.heap.size w wr := by (repeat (first | (with_reducible exact Below.refl _ _) | (with_reducible assumption) | (with_reducible apply bl_alloc) | (with_reducible apply bl_iter) | (with_reducible apply bl_drew) | (with_reducible apply bl_drewN) | (with_reducible refine bl_set ?_ (by first | assumption | (simp; done) | omega | (simp; omega)) _) | (with_reducible refine bl_then ?_ (by with_reducible assumption))))
      clear hown hrt e1 HOw hlt
      go_wp2_with (first
        | (go_at_call 14; with_reducible refine (HO.out _ (by (repeat (first | (with_reducible exact Below.refl _ _) | (with_reducible assumption) | (with_reducible apply bl_alloc) | (with_reducible apply bl_iter) | (with_reducible apply bl_drew) | (with_reducible apply bl_drewN) | (with_reducible refine bl_set ?_ (by first | assumption | (simp; done) | omega | (simp; omega)) _) | (with_reducible refine bl_then ?_ (by with_reducible assumption)))))).mono ?_; rintro e w5 ⟨⟨B5, d5, rfl, h5, -, hr5⟩, hb5⟩; have HR5 := Lib.hid hr5; clear hr5)
        | (go_at_call 15; with_reducible refine (All_any r _ hsz B5 k d5 ns (by omega) (by omega) h5 hy true _ (HE.out _ (by (repeat (first | (with_reducible exact Below.refl _ _) | (with_reducible assumption) | (with_reducible apply bl_alloc) | (with_reducible apply bl_iter) | (with_reducible apply bl_drew) | (with_reducible apply bl_drewN) | (with_reducible refine bl_set ?_ (by first | assumption | (simp; done) | omega | (simp; omega)) _) | (with_reducible refine bl_then ?_ (by with_reducible assumption)))))) (HRo.out.below (by (repeat (first | (with_reducible exact Below.refl _ _) | (with_reducible assumption) | (with_reducible apply bl_alloc) | (with_reducible apply bl_iter) | (with_reducible apply bl_drew) | (with_reducible apply bl_drewN) | (with_reducible refine bl_set ?_ (by first | assumption | (simp; done) | omega | (simp; omega)) _) | (with_reducible refine bl_then ?_ (by with_reducible assumption)))))) HR5.out).mono ?_; clear HR5; rintro e w6 ⟨⟨v6, rfl, ho6⟩, hb6⟩; obtain ⟨A6, c6, rfl, -, hh6⟩ := own_hits ho6; have HH6 := Lib.hid hh6; clear hh6 ho6)
        | (go_at_call 15; with_reducible refine (All_any r _ hsz _ k do_ _ (by omega) (by omega) ho1 hyt true _ (HE.out _ (by (repeat (first | (with_reducible exact Below.refl _ _) | (with_reducible assumption) | (with_reducible apply bl_alloc) | (with_reducible apply bl_iter) | (with_reducible apply bl_drew) | (with_reducible apply bl_drewN) | (with_reducible refine bl_set ?_ (by first | assumption | (simp; done) | omega | (simp; omega)) _) | (with_reducible refine bl_then ?_ (by with_reducible assumption)))))) (HRo.out.below (by (repeat (first | (with_reducible exact Below.refl _ _) | (with_reducible assumption) | (with_reducible apply bl_alloc) | (with_reducible apply bl_iter) | (with_reducible apply bl_drew) | (with_reducible apply bl_drewN) | (with_reducible refine bl_set ?_ (by first | assumption | (simp; done) | omega | (simp; omega)) _) | (with_reducible refine bl_then ?_ (by with_reducible assumption)))))) (HT.out.below (by (repeat (first | (with_reducible exact Below.refl _ _) | (with_reducible assumption) | (with_reducible apply bl_alloc) | (with_reducible apply bl_iter) | (with_reducible apply bl_drew) | (with_reducible apply bl_drewN) | (with_reducible refine bl_set ?_ (by first | assumption | (simp; done) | omega | (simp; omega)) _) | (with_reducible refine bl_then ?_ (by with_reducible assumption))))))).mono ?_; clear HT; rintro e w7 ⟨⟨v7, rfl, ho7⟩, hb7⟩; rw [hits_turn] at ho7; obtain ⟨A7, c7, rfl, -, hh7⟩ := own_hits ho7; have HH7 := Lib.hid hh7; clear hh7 ho7)
        | (go_at_call 16; with_reducible refine (SameHits_any A6 A7 _ c6 c7 _ _ (HH6.out.below (by (repeat (first | (with_reducible exact Below.refl _ _) | (with_reducible assumption) | (with_reducible apply bl_alloc) | (with_reducible apply bl_iter) | (with_reducible apply bl_drew) | (with_reducible apply bl_drewN) | (with_reducible refine bl_set ?_ (by first | assumption | (simp; done) | omega | (simp; omega)) _) | (with_reducible refine bl_then ?_ (by with_reducible assumption)))))) HH7.out).mono ?_; rintro e w8 ⟨rfl, hb8⟩; have hw8 : Below w3.heap.size w3 w8 := by (repeat (first | (with_reducible exact Below.refl _ _) | (with_reducible assumption) | (with_reducible apply bl_alloc) | (with_reducible apply bl_iter) | (with_reducible apply bl_drew) | (with_reducible apply bl_drewN) | (with_reducible refine bl_set ?_ (by first | assumption | (simp; done) | omega | (simp; omega)) _) | (with_reducible refine bl_then ?_ (by with_reducible assumption))))))
      clear hb5 hb6 hb7 hb8 h5
      go_loopw [14] (fun v wr => ∃ p : Nat, p ≤ xs.length + 1 ∧ v = .int .i64 p ∧ Below w3.heap.size w3 wr) (fun v _ => xs.length + 1 - (intOf v).toNat)
      case atStart => exact ⟨0, by omega, rfl, hw8⟩
      case round =>
        obtain ⟨p, hp, rfl, hbp⟩ := hrel
        by_cases hlt : p ≤ xs.length
        · have hlt' : (p : Int) ≤ xs.length := by omega
          have hp' : p ≤ (strOfNums xs).size := by rw [strOfNums_size]; exact hlt
          rcases next_pair (bytesOf (strOfNums xs)) ns p with ⟨a1, b1, a2, b2, hn1, hn2⟩ | ⟨a1, b1, a2, b2, hn1, hn2⟩ | ⟨a1, b1, a2, b2, hle, hn1, hn2⟩
          · go_wp2_with (first
              | (go_at_call 14; with_reducible refine (HO.out _ (by (repeat (first | (with_reducible exact Below.refl _ _) | (with_reducible assumption) | (with_reducible apply bl_alloc) | (with_reducible apply bl_iter) | (with_reducible apply bl_drew) | (with_reducible apply bl_drewN) | (with_reducible refine bl_set ?_ (by first | assumption | (simp; done) | omega | (simp; omega)) _) | (with_reducible refine bl_then ?_ (by with_reducible assumption)))))).mono ?_; rintro e w11 ⟨⟨B5, d5, rfl, h5, -, hr5⟩, hb11⟩; have HR5 := Lib.hid hr5; clear hr5)
              | (go_at_call 17; with_reducible refine (Next_any r _ hsz _ k _ ns (by omega) (by omega) h5 hy p hp' false _ (HE.out _ (by (repeat (first | (with_reducible exact Below.refl _ _) | (with_reducible assumption) | (with_reducible apply bl_alloc) | (with_reducible apply bl_iter) | (with_reducible apply bl_drew) | (with_reducible apply bl_drewN) | (with_reducible refine bl_set ?_ (by first | assumption | (simp; done) | omega | (simp; omega)) _) | (with_reducible refine bl_then ?_ (by with_reducible assumption)))))) (HRo.out.below (by (repeat (first | (with_reducible exact Below.refl _ _) | (with_reducible assumption) | (with_reducible apply bl_alloc) | (with_reducible apply bl_iter) | (with_reducible apply bl_drew) | (with_reducible apply bl_drewN) | (with_reducible refine bl_set ?_ (by first | assumption | (simp; done) | omega | (simp; omega)) _) | (with_reducible refine bl_then ?_ (by with_reducible assumption)))))) HR5.out).mono ?_; clear HR5; rintro e w12 ⟨rfl, hb12⟩; rw [hn1]; clear hn1)
              | (go_at_call 17; with_reducible refine (Next_any r _ hsz _ k _ ns (by omega) (by omega) h5 hy p hp' true _ (HE.out _ (by (repeat (first | (with_reducible exact Below.refl _ _) | (with_reducible assumption) | (with_reducible apply bl_alloc) | (with_reducible apply bl_iter) | (with_reducible apply bl_drew) | (with_reducible apply bl_drewN) | (with_reducible refine bl_set ?_ (by first | assumption | (simp; done) | omega | (simp; omega)) _) | (with_reducible refine bl_then ?_ (by with_reducible assumption)))))) (HRo.out.below (by (repeat (first | (with_reducible exact Below.refl _ _) | (with_reducible assumption) | (with_reducible apply bl_alloc) | (with_reducible apply bl_iter) | (with_reducible apply bl_drew) | (with_reducible apply bl_drewN) | (with_reducible refine bl_set ?_ (by first | assumption | (simp; done) | omega | (simp; omega)) _) | (with_reducible refine bl_then ?_ (by with_reducible assumption)))))) HR5.out).mono ?_; clear HR5; rintro e w14 ⟨rfl, hb14⟩; rw [hn2]; have E := ((Blk.new w12 #[.int .i64 a1, .int .i64 b1] 35).below hb11).below hb14; have z1 := E.lt; have z2 := E.cell 0; simp at z2; clear E))
            go_roundw
            case rel => exact ⟨p + 1, by omega, by go_num, by (repeat (first | (with_reducible exact Below.refl _ _) | (with_reducible assumption) | (with_reducible apply bl_alloc) | (with_reducible apply bl_iter) | (with_reducible apply bl_drew) | (with_reducible apply bl_drewN) | (with_reducible refine bl_set ?_ (by first | assumption | (simp; done) | omega | (simp; omega)) _) | (with_reducible refine bl_then ?_ (by with_reducible assumption))))⟩
            case measure => simp [intOf]; omega
          · go_wp2_with (first
              | (go_at_call 14; with_reducible refine (HO.out _ (by (repeat (first | (with_reducible exact Below.refl _ _) | (with_reducible assumption) | (with_reducible apply bl_alloc) | (with_reducible apply bl_iter) | (with_reducible apply bl_drew) | (with_reducible apply bl_drewN) | (with_reducible refine bl_set ?_ (by first | assumption | (simp; done) | omega | (simp; omega)) _) | (with_reducible refine bl_then ?_ (by with_reducible assumption)))))).mono ?_; rintro e w11 ⟨⟨B5, d5, rfl, h5, -, hr5⟩, hb11⟩; have HR5 := Lib.hid hr5; clear hr5)
              | (go_at_call 17; with_reducible refine (Next_any r _ hsz _ k _ ns (by omega) (by omega) h5 hy p hp' false _ (HE.out _ (by (repeat (first | (with_reducible exact Below.refl _ _) | (with_reducible assumption) | (with_reducible apply bl_alloc) | (with_reducible apply bl_iter) | (with_reducible apply bl_drew) | (with_reducible apply bl_drewN) | (with_reducible refine bl_set ?_ (by first | assumption | (simp; done) | omega | (simp; omega)) _) | (with_reducible refine bl_then ?_ (by with_reducible assumption)))))) (HRo.out.below (by (repeat (first | (with_reducible exact Below.refl _ _) | (with_reducible assumption) | (with_reducible apply bl_alloc) | (with_reducible apply bl_iter) | (with_reducible apply bl_drew) | (with_reducible apply bl_drewN) | (with_reducible refine bl_set ?_ (by first | assumption | (simp; done) | omega | (simp; omega)) _) | (with_reducible refine bl_then ?_ (by with_reducible assumption)))))) HR5.out).mono ?_; clear HR5; rintro e w12 ⟨rfl, hb12⟩; rw [hn1]; clear hn1)
              | (go_at_call 17; with_reducible refine (Next_any r _ hsz _ k _ ns (by omega) (by omega) h5 hy p hp' true _ (HE.out _ (by (repeat (first | (with_reducible exact Below.refl _ _) | (with_reducible assumption) | (with_reducible apply bl_alloc) | (with_reducible apply bl_iter) | (with_reducible apply bl_drew) | (with_reducible apply bl_drewN) | (with_reducible refine bl_set ?_ (by first | assumption | (simp; done) | omega | (simp; omega)) _) | (with_reducible refine bl_then ?_ (by with_reducible assumption)))))) (HRo.out.below (by (repeat (first | (with_reducible exact Below.refl _ _) | (with_reducible assumption) | (with_reducible apply bl_alloc) | (with_reducible apply bl_iter) | (with_reducible apply bl_drew) | (with_reducible apply bl_drewN) | (with_reducible refine bl_set ?_ (by first | assumption | (simp; done) | omega | (simp; omega)) _) | (with_reducible refine bl_then ?_ (by with_reducible assumption)))))) HR5.out).mono ?_; clear HR5; rintro e w14 ⟨rfl, hb14⟩; rw [hn2]; have E := ((Blk.new w12 #[.int .i64 a1, .int .i64 b1] 35).below hb11).below hb14; have z1 := E.lt; have z2 := E.cell 0; simp at z2; clear E))
            go_roundw
            case rel => exact ⟨p + 1, by omega, by go_num, by (repeat (first | (with_reducible exact Below.refl _ _) | (with_reducible assumption) | (with_reducible apply bl_alloc) | (with_reducible apply bl_iter) | (with_reducible apply bl_drew) | (with_reducible apply bl_drewN) | (with_reducible refine bl_set ?_ (by first | assumption | (simp; done) | omega | (simp; omega)) _) | (with_reducible refine bl_then ?_ (by with_reducible assumption))))⟩
            case measure => simp [intOf]; omega
          · go_wp2_with (first
              | (go_at_call 14; with_reducible refine (HO.out _ (by (repeat (first | (with_reducible exact Below.refl _ _) | (with_reducible assumption) | (with_reducible apply bl_alloc) | (with_reducible apply bl_iter) | (with_reducible apply bl_drew) | (with_reducible apply bl_drewN) | (with_reducible refine bl_set ?_ (by first | assumption | (simp; done) | omega | (simp; omega)) _) | (with_reducible refine bl_then ?_ (by with_reducible assumption)))))).mono ?_; rintro e w11 ⟨⟨B5, d5, rfl, h5, -, hr5⟩, hb11⟩; have HR5 := Lib.hid hr5; clear hr5)
              | (go_at_call 17; with_reducible refine (Next_any r _ hsz _ k _ ns (by omega) (by omega) h5 hy p hp' false _ (HE.out _ (by (repeat (first | (with_reducible exact Below.refl _ _) | (with_reducible assumption) | (with_reducible apply bl_alloc) | (with_reducible apply bl_iter) | (with_reducible apply bl_drew) | (with_reducible apply bl_drewN) | (with_reducible refine bl_set ?_ (by first | assumption | (simp; done) | omega | (simp; omega)) _) | (with_reducible refine bl_then ?_ (by with_reducible assumption)))))) (HRo.out.below (by (repeat (first | (with_reducible exact Below.refl _ _) | (with_reducible assumption) | (with_reducible apply bl_alloc) | (with_reducible apply bl_iter) | (with_reducible apply bl_drew) | (with_reducible apply bl_drewN) | (with_reducible refine bl_set ?_ (by first | assumption | (simp; done) | omega | (simp; omega)) _) | (with_reducible refine bl_then ?_ (by with_reducible assumption)))))) HR5.out).mono ?_; clear HR5; rintro e w12 ⟨rfl, hb12⟩; rw [hn1]; clear hn1)
              | (go_at_call 17; with_reducible refine (Next_any r _ hsz _ k _ ns (by omega) (by omega) h5 hy p hp' true _ (HE.out _ (by (repeat (first | (with_reducible exact Below.refl _ _) | (with_reducible assumption) | (with_reducible apply bl_alloc) | (with_reducible apply bl_iter) | (with_reducible apply bl_drew) | (with_reducible apply bl_drewN) | (with_reducible refine bl_set ?_ (by first | assumption | (simp; done) | omega | (simp; omega)) _) | (with_reducible refine bl_then ?_ (by with_reducible assumption)))))) (HRo.out.below (by (repeat (first | (with_reducible exact Below.refl _ _) | (with_reducible assumption) | (with_reducible apply bl_alloc) | (with_reducible apply bl_iter) | (with_reducible apply bl_drew) | (with_reducible apply bl_drewN) | (with_reducible refine bl_set ?_ (by first | assumption | (simp; done) | omega | (simp; omega)) _) | (with_reducible refine bl_then ?_ (by with_reducible assumption)))))) HR5.out).mono ?_; clear HR5; rintro e w14 ⟨rfl, hb14⟩; rw [hn2]; have E := ((Blk.new w12 #[.int .i64 a1, .int .i64 b1] 35).below hb11).below hb14; have z1 := E.lt; have z2 := E.cell 0; simp at z2; clear E))
            go_roundw
            case rel => exact ⟨p + 1, by omega, by go_num, by (repeat (first | (with_reducible exact Below.refl _ _) | (with_reducible assumption) | (with_reducible apply bl_alloc) | (with_reducible apply bl_iter) | (with_reducible apply bl_drew) | (with_reducible apply bl_drewN) | (with_reducible refine bl_set ?_ (by first | assumption | (simp; done) | omega | (simp; omega)) _) | (with_reducible refine bl_then ?_ (by with_reducible assumption))))⟩
            case measure => simp [intOf]; omega
        · have hlt' : ¬ (p : Int) ≤ xs.length := by omega
          go_wp2
          go_ret
          exact ⟨rfl, by (repeat (first | (with_reducible exact Below.refl _ _) | (with_reducible assumption) | (with_reducible apply bl_alloc) | (with_reducible apply bl_iter) | (with_reducible apply bl_drew) | (with_reducible apply bl_drewN) | (with_reducible refine bl_set ?_ (by first | assumption | (simp; done) | omega | (simp; omega)) _) | (with_reducible refine bl_then ?_ (by with_reducible assumption))))⟩
end Go.Proofs.YtcjplgcnjfinoaaDoor
