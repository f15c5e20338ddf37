/- Contracts of (*find.look).next and find.open, exact. -/
import Derived.Test.YtcjplgcnjfinoaaDoorFindA
import Derived.Test.YtcjplgcnjfinoaaDoorBytes
namespace Go.Proofs.YtcjplgcnjfinoaaDoor
open Go.RowKit Go.Shelf Go.Proofs.YtcjplgcnjfinoaaDoorW.PrintWords Go.Proofs.YtcjplgcnjfinoaaDoorW.PrintMore
attribute [local go_sem] max2_int min2_int max_two min_two

theorem stands_le {fold : Bool} {xs ns : List Int} {j : Nat} (h : standsI fold xs ns j = true) : j + ns.length ≤ xs.length := by
  unfold standsI at h
  rw [Bool.and_eq_true, decide_eq_true_eq] at h
  exact h.1
theorem stands_far_false {fold : Bool} {xs ns : List Int} {j : Nat} (h : ¬ j + ns.length ≤ xs.length) : standsI fold xs ns j = false := by
  cases hs : standsI fold xs ns j
  · rfl
  · exact absurd (stands_le hs) h
/-- The first place from p on at which the needle stands; -1: none. -/
def nextI (fold : Bool) (xs ns : List Int) (p : Nat) : Int := match (List.range (xs.length + 1)).find? (fun j => decide (p ≤ j) && standsI fold xs ns j) with | some k => (k : Int) | none => -1
theorem nextI_hit {fold : Bool} {xs ns : List Int} {p k : Nat} (h1 : p ≤ k) (h2 : ∀ j, p ≤ j → j < k → standsI fold xs ns j = false) (h3 : standsI fold xs ns k = true) : nextI fold xs ns p = k := by
  have hk := stands_le h3
  have hf : (List.range (xs.length + 1)).find? (fun j => decide (p ≤ j) && standsI fold xs ns j) = some k := by
    rw [List.find?_range_eq_some]
    refine ⟨by rw [h3, decide_eq_true h1]; rfl, List.mem_range.2 (by omega), fun j hj => ?_⟩
    by_cases hp : p ≤ j
    · rw [h2 j hp hj, Bool.and_false]; rfl
    · rw [decide_eq_false hp, Bool.false_and]; rfl
  unfold nextI
  rw [hf]
theorem nextI_miss {fold : Bool} {xs ns : List Int} {p : Nat} (h : ∀ j, p ≤ j → standsI fold xs ns j = false) : nextI fold xs ns p = -1 := by
  have hf : (List.range (xs.length + 1)).find? (fun j => decide (p ≤ j) && standsI fold xs ns j) = none := by
    rw [List.find?_eq_none]
    intro j _
    by_cases hp : p ≤ j
    · rw [h j hp, Bool.and_false]; simp
    · rw [decide_eq_false hp, Bool.false_and]; simp
  unfold nextI
  rw [hf]
theorem nextI_cases (fold : Bool) (xs ns : List Int) (p : Nat) : (nextI fold xs ns p = -1 ∧ ∀ j, p ≤ j → standsI fold xs ns j = false) ∨ ∃ k : Nat, nextI fold xs ns p = k ∧ p ≤ k ∧ standsI fold xs ns k = true ∧ ∀ j, p ≤ j → j < k → standsI fold xs ns j = false := by
  cases hf : (List.range (xs.length + 1)).find? (fun j => decide (p ≤ j) && standsI fold xs ns j) with
  | none =>
    refine .inl ⟨by unfold nextI; rw [hf], fun j hp => ?_⟩
    cases hs : standsI fold xs ns j
    · rfl
    · rw [List.find?_eq_none] at hf
      have := hf j (List.mem_range.2 (by have := stands_le hs; omega))
      rw [hs, decide_eq_true hp] at this
      exact absurd rfl this
  | some k =>
    rw [List.find?_range_eq_some] at hf
    obtain ⟨h1, -, h3⟩ := hf
    rw [Bool.and_eq_true, decide_eq_true_eq] at h1
    refine .inr ⟨k, nextI_hit h1.1 (fun j hp hj => ?_) h1.2, h1.1, h1.2, fun j hp hj => ?_⟩
    all_goals
      have := h3 j hj
      rw [decide_eq_true hp, Bool.true_and] at this
      simpa using this

theorem stands_any {l n c m d : Nat} {A B : Option Addr} {xs ns : List Int} {F : Value} {fold : Bool} (hx : ∀ i, 0 ≤ xs.getD i 0 ∧ xs.getD i 0 ≤ 255) (hy : ∀ i, 0 ≤ ns.getD i 0 ∧ ns.getD i 0 ≤ 255) (lo : Nat) (hlo : lo ≤ 268435456) (w : World) (hl : Look w l A n c xs B m d ns F fold) :
    Calls Tryd.prog 39 #[.pointer (some ⟨l, 0, none⟩), .int .i64 lo] w fun e w' => e = .returned (.bool (standsI fold xs ns lo)) ∧ Below w.heap.size w w' := by
  by_cases h : lo + m ≤ n
  · cases fold
    · exact stands_false hx hy lo h w hl
    · exact stands_true hx hy lo h w hl
  · have e : standsI fold xs ns lo = false := stands_far_false (by rw [hl.text.1, hl.needle.1]; exact h)
    rw [e]
    exact stands_far lo hlo h w hl

set_option maxRecDepth 100000 in
set_option maxHeartbeats 4000000 in
theorem next_any {l n c m d : Nat} {A B : Option Addr} {xs ns : List Int} {F : Value} {fold : Bool} (hx : ∀ i, 0 ≤ xs.getD i 0 ∧ xs.getD i 0 ≤ 255) (hy : ∀ i, 0 ≤ ns.getD i 0 ∧ ns.getD i 0 ≤ 255) (p : Nat) (hp : p ≤ n) (w : World) (hl : Look w l A n c xs B m d ns F fold) :
    Calls Tryd.prog 36 #[.pointer (some ⟨l, 0, none⟩), .int .i64 p] w fun e w' => e = .returned (.int .i64 (nextI fold xs ns p)) ∧ Below w.heap.size w w' := by
  have hxl : xs.length = n := hl.text.1
  have hnl : ns.length = m := hl.needle.1
  have h2 := hl.size'
  have h3 := hl.size
  have HS := Lib.hid (fun W k (h : Below w.heap.size w W) (hk : k ≤ 268435456) => stands_any hx hy k hk W (hl.below h))
  have KC := Lib.hid (fun W (h : Below w.heap.size w W) => (show W.cell? ⟨l, 0, none⟩ = some (.slice A n c) ∧ W.cell? ⟨l, 1, none⟩ = some (.slice B m d) ∧ Below w.heap.size w W from ⟨(hl.blk.below h).cell 0, (hl.blk.below h).cell 1, h⟩))
  obtain ⟨R, hR⟩ : ∃ R, R = nextI fold xs ns p := ⟨_, rfl⟩
  rw [← hR]
  have HR := Lib.hid hR
  clear hl hR hx hy
  go_enter Tryd.func36, Tryd.ntmps36
  go_wp2
  go_loopw [5] (fun v wr => ∃ k : Nat, p ≤ k ∧ k ≤ n + 1 ∧ v = .int .i64 k ∧ (∀ j, p ≤ j → j < k → standsI fold xs ns j = false) ∧ Below w.heap.size w wr) (fun v _ => n + 1 - (intOf v).toNat)
  case atStart => exact ⟨p, Nat.le_refl _, by omega, rfl, fun j h1 h2 => absurd h1 (by omega), Below.refl _ _⟩
  case round =>
    obtain ⟨k, hk1, hk2, rfl, hno, hbl⟩ := hrel
    obtain ⟨d0, d1, -⟩ := KC.out wr hbl
    have hbw : Below w.heap.size w wr.drew := hbl.drew
    have g1 : IntKind.i64.wrap ((k : Int) + m) = (k : Int) + m := IntWalk.i64_in _ (by omega)
    have hL := HS.out
    by_cases hle : k + m ≤ n
    · have g2 : (k : Int) + m ≤ n := by omega
      have HL := Lib.hid (fun W hb => HS.out W k hb (by omega))
      have HN := Lib.hid hno
      cases hs : standsI fold xs ns k
      · rw [hs] at HL
        have HQ := Lib.hid (show ∀ j, p ≤ j → j < k + 1 → standsI fold xs ns j = false from fun j h1 h2 => by
          rcases Nat.lt_or_ge j k with h | h
          · exact hno j h1 h
          · rw [show j = k from by omega]; exact hs)
        clear hL hs hno HN
        go_wp2
        go_region_with (fail)
        all_goals go_wp2_with (go_at_call 39; refine (HL.out _ (by (repeat (first | (with_reducible exact Below.refl _ _) | (with_reducible assumption) | (with_reducible apply bl_alloc) | (with_reducible apply bl_iter) | (with_reducible apply bl_drew) | (with_reducible apply bl_drewN) | (with_reducible refine bl_set ?_ (by first | assumption | (simp; done) | omega | (simp; omega)) _) | (with_reducible refine bl_then ?_ (by with_reducible assumption)))))).mono ?_; clear HL; rintro e w1 ⟨rfl, hb1⟩)
        all_goals go_roundw
        all_goals first | exact ⟨k + 1, by omega, by omega, by go_num, HQ.out, by (repeat (first | (with_reducible exact Below.refl _ _) | (with_reducible assumption) | (with_reducible apply bl_alloc) | (with_reducible apply bl_iter) | (with_reducible apply bl_drew) | (with_reducible apply bl_drewN) | (with_reducible refine bl_set ?_ (by first | assumption | (simp; done) | omega | (simp; omega)) _) | (with_reducible refine bl_then ?_ (by with_reducible assumption))))⟩ | (simp [intOf]; omega)
      · rw [hs] at HL
        have HQ := Lib.hid (nextI_hit hk1 hno hs)
        clear hL hs hno HN
        go_wp2
        go_region_with (fail)
        all_goals go_wp2_with (go_at_call 39; refine (HL.out _ (by (repeat (first | (with_reducible exact Below.refl _ _) | (with_reducible assumption) | (with_reducible apply bl_alloc) | (with_reducible apply bl_iter) | (with_reducible apply bl_drew) | (with_reducible apply bl_drewN) | (with_reducible refine bl_set ?_ (by first | assumption | (simp; done) | omega | (simp; omega)) _) | (with_reducible refine bl_then ?_ (by with_reducible assumption)))))).mono ?_; clear HL; rintro e w1 ⟨rfl, hb1⟩)
        all_goals go_ret
        all_goals exact ⟨(by rw [HR.out, HQ.out]; first | done | rfl), by (repeat (first | (with_reducible exact Below.refl _ _) | (with_reducible assumption) | (with_reducible apply bl_alloc) | (with_reducible apply bl_iter) | (with_reducible apply bl_drew) | (with_reducible apply bl_drewN) | (with_reducible refine bl_set ?_ (by first | assumption | (simp; done) | omega | (simp; omega)) _) | (with_reducible refine bl_then ?_ (by with_reducible assumption))))⟩
    · have g2 : ¬ (k : Int) + m ≤ n := by omega
      have HQ := Lib.hid (nextI_miss (fold := fold) (xs := xs) (ns := ns) (p := p) fun j h1 => by
        rcases Nat.lt_or_ge j k with h | h
        · exact hno j h1 h
        · exact stands_far_false (by omega))
      clear hL hno hle
      go_wp2
      go_region_with (fail)
      all_goals go_wp2
      all_goals go_ret
      all_goals exact ⟨(by rw [HR.out, HQ.out]; first | done | rfl), by (repeat (first | (with_reducible exact Below.refl _ _) | (with_reducible assumption) | (with_reducible apply bl_alloc) | (with_reducible apply bl_iter) | (with_reducible apply bl_drew) | (with_reducible apply bl_drewN) | (with_reducible refine bl_set ?_ (by first | assumption | (simp; done) | omega | (simp; omega)) _) | (with_reducible refine bl_then ?_ (by with_reducible assumption))))⟩

theorem LikeAt.func {W : World} {F : Value} {fold : Bool} (h : LikeAt W F fold) : ∃ fn xs ys, F = .func fn xs ys := by
  rcases h with ⟨-, rfl⟩ | ⟨-, q, rfl, -⟩
  · exact ⟨_, _, _, rfl⟩
  · exact ⟨_, _, _, rfl⟩
theorem bytes_range (s : ByteArray) (i : Nat) : 0 ≤ (bytesOf s).getD i 0 ∧ (bytesOf s).getD i 0 ≤ 255 := by
  have h := rd_bytesOf s i
  unfold rd at h
  rw [Int.toNat_natCast] at h
  rw [h]
  exact bt_range s i
set_option maxRecDepth 100000 in
theorem open_nil (v : Value) (fold : Bool) (w : World) :
    Calls Tryd.prog 34 #[.pointer none, v, .bool fold] w fun e w' => e = .returned (.tuple #[.pointer none, .int .i64 1]) ∧ Below w.heap.size w w' := by
  go_enter Tryd.func34, Tryd.ntmps34
  go_wp2
  go_ret2
  exact ⟨rfl, by (repeat (first | (with_reducible exact Below.refl _ _) | (with_reducible assumption) | (with_reducible apply bl_alloc) | (with_reducible apply bl_iter) | (with_reducible apply bl_drew) | (with_reducible apply bl_drewN) | (with_reducible refine bl_set ?_ (by first | assumption | (simp; done) | omega | (simp; omega)) _) | (with_reducible refine bl_then ?_ (by with_reducible assumption))))⟩
set_option maxRecDepth 100000 in
theorem open_empty (r : Nat) (B : Option Addr) (d : Nat) (fold : Bool) (w : World) :
    Calls Tryd.prog 34 #[.pointer (some ⟨r, 0, none⟩), .slice B 0 d, .bool fold] w fun e w' => e = .returned (.tuple #[.pointer none, .int .i64 200]) ∧ Below w.heap.size w w' := by
  go_enter Tryd.func34, Tryd.ntmps34
  go_wp2
  go_ret2
  exact ⟨rfl, by (repeat (first | (with_reducible exact Below.refl _ _) | (with_reducible assumption) | (with_reducible apply bl_alloc) | (with_reducible apply bl_iter) | (with_reducible apply bl_drew) | (with_reducible apply bl_drewN) | (with_reducible refine bl_set ?_ (by first | assumption | (simp; done) | omega | (simp; omega)) _) | (with_reducible refine bl_then ?_ (by with_reducible assumption))))⟩
set_option maxRecDepth 100000 in
set_option maxHeartbeats 2000000 in
theorem open_any (r : Nat) (s : ByteArray) (hs : s.size ≤ 268435456) (B : Option Addr) (m d : Nat) (ns : List Int) (hm : 1 ≤ m) (hm2 : m ≤ 268435456) (hd : m ≤ d) (fold : Bool) (w : World) (he : Env w) (h : RopeAt w r s) (hn : ReadsInt w .u8 B m ns) :
    Calls Tryd.prog 34 #[.pointer (some ⟨r, 0, none⟩), .slice B m d, .bool fold] w fun e w' => (∃ l A c F, e = .returned (.tuple #[.pointer (some ⟨l, 0, none⟩), .int .i64 0]) ∧ Look w' l A s.size c (bytesOf s) B m d ns F fold) ∧ Below w.heap.size w w' := by
  have HL := Lib.hid (fun W (hb : Below w.heap.size w W) => Len_any r s W (h.below hb))
  have HB := Lib.hid (fun W (hb : Below w.heap.size w W) => Bytes_any r s hs W (h.below hb))
  have HE := Lib.hid (fun W (hb : Below w.heap.size w W) => (show Env W ∧ ReadsInt W .u8 B m ns from ⟨he.below hb, hn.below hb⟩))
  have HF := Lib.hid (fun W => likeness_any fold W)
  have g1 : ¬ (m : Int) = 0 := by omega
  have g2 : ¬ m = 0 := by omega
  clear he h hn
  go_enter Tryd.func34, Tryd.ntmps34
  go_wp2_with (first
    | (go_at_call 53; refine (HL.out _ (by (repeat (first | (with_reducible exact Below.refl _ _) | (with_reducible assumption) | (with_reducible apply bl_alloc) | (with_reducible apply bl_iter) | (with_reducible apply bl_drew) | (with_reducible apply bl_drewN) | (with_reducible refine bl_set ?_ (by first | assumption | (simp; done) | omega | (simp; omega)) _) | (with_reducible refine bl_then ?_ (by with_reducible assumption)))))).mono ?_; clear HL; rintro e w1 ⟨rfl, hb1⟩)
    | (go_at_call 30; refine (HB.out _ (by (repeat (first | (with_reducible exact Below.refl _ _) | (with_reducible assumption) | (with_reducible apply bl_alloc) | (with_reducible apply bl_iter) | (with_reducible apply bl_drew) | (with_reducible apply bl_drewN) | (with_reducible refine bl_set ?_ (by first | assumption | (simp; done) | omega | (simp; omega)) _) | (with_reducible refine bl_then ?_ (by with_reducible assumption)))))).mono ?_; clear HB; rintro e w2 ⟨⟨A, c, rfl, hc, hr⟩, hb2⟩; have HR := Lib.hid hr; clear hr)
    | (go_at_call 55; refine (HF.out _).mono ?_; clear HF; rintro e w3 ⟨⟨F, rfl, hF⟩, hb3⟩; obtain ⟨fn, xs1, xs2, rfl⟩ := hF.func; have HLk := Lib.hid hF; clear hF))
  have hbw : Below w.heap.size w w3 := by (repeat (first | (with_reducible exact Below.refl _ _) | (with_reducible assumption) | (with_reducible apply bl_alloc) | (with_reducible apply bl_iter) | (with_reducible apply bl_drew) | (with_reducible apply bl_drewN) | (with_reducible refine bl_set ?_ (by first | assumption | (simp; done) | omega | (simp; omega)) _) | (with_reducible refine bl_then ?_ (by with_reducible assumption))))
  obtain ⟨he3, hn3⟩ := HE.out _ hbw
  have hr3 := HR.out.below hb3
  go_ret2
  have hb4 : Below w3.heap.size w3 (w3.alloc (.cells #[.slice A s.size c, .slice B m d, .func fn xs1 xs2] 76)) := (Below.refl _ _).alloc (Nat.le_refl _) _
  exact ⟨⟨_, _, _, _, rfl, Blk.new _ _ _, hr3.below hb4, hc, hs, hn3.below hb4, hd, hm2, HLk.out.below hb4, he3.below hb4⟩, by (repeat (first | (with_reducible exact Below.refl _ _) | (with_reducible assumption) | (with_reducible apply bl_alloc) | (with_reducible apply bl_iter) | (with_reducible apply bl_drew) | (with_reducible apply bl_drewN) | (with_reducible refine bl_set ?_ (by first | assumption | (simp; done) | omega | (simp; omega)) _) | (with_reducible refine bl_then ?_ (by with_reducible assumption))))⟩
end Go.Proofs.YtcjplgcnjfinoaaDoor
