/- Contracts of package octet's functions, exact: Class, Need, second, Second, Whole, Value. Conditions: the tables hold what their text lays. -/
import Derived.Test.YtcjplgcnjfinoaaDoorKit
namespace Go.Proofs.YtcjplgcnjfinoaaDoor
open Go.RowKit Go.Proofs.YtcjplgcnjfinoaaDoorW.PrintWords Go.Proofs.YtcjplgcnjfinoaaDoorW.PrintMore

/-- A byte's class. -/
def classOf (b : Int) : Int := if b ≤ 127 then 1 else if b ≤ 191 then 2 else if b ≤ 193 then 6 else if b ≤ 223 then 3 else if b ≤ 239 then 4 else if b ≤ 244 then 5 else 6
/-- None of the first k spans holds the byte. -/
def Past (b : Int) (k : Nat) : Prop := ∀ j, j < k → ¬ (spansL.getD (3 * j) 0 ≤ b ∧ b ≤ spansL.getD (3 * j + 1) 0)
theorem Past.succ {b : Int} {k : Nat} (h : Past b k) (hn : ¬ (spansL.getD (3 * k) 0 ≤ b ∧ b ≤ spansL.getD (3 * k + 1) 0)) : Past b (k + 1) := fun j hj => by
  rcases Nat.lt_or_ge j k with h' | h'
  · exact h j h'
  · rw [show j = k from by omega]; exact hn
theorem Past.all {b : Int} (h0 : 0 ≤ b) (h1 : b ≤ 255) : ¬ Past b 7 := fun h => by
  have g0 := h 0 (by omega); have g1 := h 1 (by omega); have g2 := h 2 (by omega); have g3 := h 3 (by omega); have g4 := h 4 (by omega); have g5 := h 5 (by omega); have g6 := h 6 (by omega)
  simp [spansL] at g0 g1 g2 g3 g4 g5 g6
  omega
theorem Past.hit {b : Int} {k : Nat} (h : Past b k) (hk : k < 7) (hh : spansL.getD (3 * k) 0 ≤ b ∧ b ≤ spansL.getD (3 * k + 1) 0) : classOf b = spansL.getD (3 * k + 2) 0 := by
  obtain rfl | rfl | rfl | rfl | rfl | rfl | rfl : k = 0 ∨ k = 1 ∨ k = 2 ∨ k = 3 ∨ k = 4 ∨ k = 5 ∨ k = 6 := by omega
  all_goals simp [spansL] at hh ⊢; unfold classOf; repeat' (split <;> try omega)
theorem spans_index (k : Nat) (h : k < 7) (w : World) : (Instr.index 173 (.agg (spansL.map (Value.int .i64)).toArray) (.int .i64 (k : Int))).run Tryd.prog w = .ok (.agg #[.int .i64 (spansL.getD (3 * k) 0), .int .i64 (spansL.getD (3 * k + 1) 0), .int .i64 (spansL.getD (3 * k + 2) 0)]) w := by
  obtain rfl | rfl | rfl | rfl | rfl | rfl | rfl : k = 0 ∨ k = 1 ∨ k = 2 ∨ k = 3 ∨ k = 4 ∨ k = 5 ∨ k = 6 := by omega
  all_goals kernel_rfl

set_option maxHeartbeats 400000 in
set_option maxRecDepth 100000 in
theorem Class_any (b : Int) (h0 : 0 ≤ b) (h1 : b ≤ 255) (w : World) (he : Env w) :
    Calls Tryd.prog 106 #[.int .u8 b] w fun e w' => e = .returned (.int .i64 (classOf b)) ∧ Below w.heap.size w w' := by
  go_enter Tryd.func106, Tryd.ntmps106
  go_wp2_with (refine wpList_load_cells rfl 173 _ rfl 3 0 rfl (spansL.map (Value.int .i64)) _ (fun j v hv => by rw [Nat.zero_add]; exact he.spans j v hv) Tryd.underlying173 rfl (by kernel_rfl) ?_)
  go_loopw [6] (fun v wr => ∃ k : Nat, k ≤ 7 ∧ v = .int .i64 k ∧ Past b k ∧ Below w.heap.size w wr) (fun v _ => 7 - (intOf v).toNat)
  case atStart => exact ⟨0, by omega, rfl, fun j hj => absurd hj (by omega), Below.refl _ _⟩
  case round =>
    obtain ⟨k, hk7, rfl, hp, hbl⟩ := hrel
    by_cases hk : k < 7
    · have hix := spans_index k hk
      have R1 := Lib.hid (fun h => Past.succ (b := b) (k := k) hp h)
      have R2 := Lib.hid (fun h => Past.hit (b := b) (k := k) hp hk h)
      clear hp
      generalize spansL.getD (3 * k) 0 = lo at *
      generalize spansL.getD (3 * k + 1) 0 = hi at *
      generalize spansL.getD (3 * k + 2) 0 = cl at *
      by_cases hlo : lo ≤ b
      · by_cases hhi : b ≤ hi
        · go_wp2
          go_ret
          exact ⟨by rw [R2.out ⟨hlo, hhi⟩]; rfl, by (repeat (first | (with_reducible exact Below.refl _ _) | (with_reducible assumption) | (with_reducible apply bl_alloc) | (with_reducible apply bl_iter) | (with_reducible apply bl_drew) | (with_reducible apply bl_drewN) | (with_reducible refine bl_set ?_ (by first | assumption | (simp; done) | omega | (simp; omega)) _) | (with_reducible refine bl_then ?_ (by with_reducible assumption))))⟩
        · have R := R1.out (fun h => hhi h.2)
          go_wp2
          go_roundw
          case rel => exact ⟨k + 1, by omega, by go_num, R, by (repeat (first | (with_reducible exact Below.refl _ _) | (with_reducible assumption) | (with_reducible apply bl_alloc) | (with_reducible apply bl_iter) | (with_reducible apply bl_drew) | (with_reducible apply bl_drewN) | (with_reducible refine bl_set ?_ (by first | assumption | (simp; done) | omega | (simp; omega)) _) | (with_reducible refine bl_then ?_ (by with_reducible assumption))))⟩
          case measure => simp [intOf]; omega
      · have R := R1.out (fun h => hlo h.1)
        go_wp2
        go_roundw
        case rel => exact ⟨k + 1, by omega, by go_num, R, by (repeat (first | (with_reducible exact Below.refl _ _) | (with_reducible assumption) | (with_reducible apply bl_alloc) | (with_reducible apply bl_iter) | (with_reducible apply bl_drew) | (with_reducible apply bl_drewN) | (with_reducible refine bl_set ?_ (by first | assumption | (simp; done) | omega | (simp; omega)) _) | (with_reducible refine bl_then ?_ (by with_reducible assumption))))⟩
        case measure => simp [intOf]; omega
    · obtain rfl : k = 7 := by omega
      exact absurd hp (Past.all h0 h1)

/-- How many bytes an encoding has that begins with this byte. -/
def needOf (b : Int) : Int := if b ≤ 127 then 1 else if b ≤ 193 then 0 else if b ≤ 223 then 2 else if b ≤ 239 then 3 else if b ≤ 244 then 4 else 0
theorem classOf_range (b : Int) : 1 ≤ classOf b ∧ classOf b ≤ 6 := by
  unfold classOf
  repeat' (split <;> try omega)
theorem needOf_range (b : Int) : 0 ≤ needOf b ∧ needOf b ≤ 4 := by
  unfold needOf
  repeat' (split <;> try omega)
theorem needs_cell {w : World} (he : Env w) (b : Int) : w.cell? ⟨2, (classOf b).toNat, none⟩ = some (.int .i64 (needOf b)) := by
  refine he.needs _ _ ?_
  unfold classOf needOf
  repeat' (split <;> try first | rfl | omega)

set_option maxHeartbeats 400000 in
set_option maxRecDepth 100000 in
theorem Need_any (b : Int) (h0 : 0 ≤ b) (h1 : b ≤ 255) (w : World) (he : Env w) :
    Calls Tryd.prog 105 #[.int .u8 b] w fun e w' => e = .returned (.int .i64 (needOf b)) ∧ Below w.heap.size w w' := by
  obtain ⟨r0, r1⟩ := classOf_range b
  go_enter Tryd.func105, Tryd.ntmps105
  go_wp2_with (go_at_call 106; refine (Class_any _ h0 h1 _ he).mono ?_; rintro e w' ⟨rfl, hb2⟩; have hcl := needs_cell (he.below hb2) b)
  go_ret
  exact ⟨rfl, hb2⟩

/-- The least and the greatest byte behind a lead. -/
def secLo (b : Int) : Int := if b = 224 then 160 else if b = 237 then 128 else if b = 240 then 144 else if b = 244 then 128 else if 1 < needOf b then 128 else 1
def secHi (b : Int) : Int := if b = 224 then 191 else if b = 237 then 159 else if b = 240 then 191 else if b = 244 then 143 else if 1 < needOf b then 191 else 0
set_option maxHeartbeats 400000 in
set_option maxRecDepth 100000 in
theorem second_any (b : Int) (h0 : 0 ≤ b) (h1 : b ≤ 255) (w : World) (he : Env w) :
    Calls Tryd.prog 108 #[.int .u8 b] w fun e w' => e = .returned (.tuple #[.int .u8 (secLo b), .int .u8 (secHi b)]) ∧ Below w.heap.size w w' := by
  unfold secLo secHi
  by_cases c1 : b = 224
  · subst c1
    go_enter Tryd.func108, Tryd.ntmps108
    go_wp2
    go_ret2
    exact ⟨rfl, Below.refl _ _⟩
  by_cases c2 : b = 237
  · subst c2
    go_enter Tryd.func108, Tryd.ntmps108
    go_wp2
    go_ret2
    exact ⟨rfl, Below.refl _ _⟩
  by_cases c3 : b = 240
  · subst c3
    go_enter Tryd.func108, Tryd.ntmps108
    go_wp2
    go_ret2
    exact ⟨rfl, Below.refl _ _⟩
  by_cases c4 : b = 244
  · subst c4
    go_enter Tryd.func108, Tryd.ntmps108
    go_wp2
    go_ret2
    exact ⟨rfl, Below.refl _ _⟩
  rw [if_neg c1, if_neg c2, if_neg c3, if_neg c4, if_neg c1, if_neg c2, if_neg c3, if_neg c4]
  have d1 : (b == 224) = false := beq_eq_false_iff_ne.2 c1
  have d2 : (b == 237) = false := beq_eq_false_iff_ne.2 c2
  have d3 : (b == 240) = false := beq_eq_false_iff_ne.2 c3
  have d4 : (b == 244) = false := beq_eq_false_iff_ne.2 c4
  clear c1 c2 c3 c4
  by_cases c5 : 1 < needOf b
  · rw [if_pos c5, if_pos c5]
    go_enter Tryd.func108, Tryd.ntmps108
    go_wp2_with (go_at_call 105; refine (Need_any _ h0 h1 _ he).mono ?_; rintro e w' ⟨rfl, hb2⟩)
    go_ret2
    exact ⟨rfl, hb2⟩
  · rw [if_neg c5, if_neg c5]
    go_enter Tryd.func108, Tryd.ntmps108
    go_wp2_with (go_at_call 105; refine (Need_any _ h0 h1 _ he).mono ?_; rintro e w' ⟨rfl, hb2⟩)
    go_ret2
    exact ⟨rfl, hb2⟩

/-- May c stand behind the lead b? -/
def isSecond (b c : Int) : Bool := decide (secLo b ≤ c) && decide (c ≤ secHi b)
set_option maxHeartbeats 400000 in
set_option maxRecDepth 100000 in
theorem Second_any (b c : Int) (h0 : 0 ≤ b) (h1 : b ≤ 255) (w : World) (he : Env w) :
    Calls Tryd.prog 107 #[.int .u8 b, .int .u8 c] w fun e w' => e = .returned (.bool (isSecond b c)) ∧ Below w.heap.size w w' := by
  have hs := second_any b h0 h1 w he
  unfold isSecond
  generalize secLo b = lo at *
  generalize secHi b = hi at *
  by_cases hlo : lo ≤ c
  · have d1 : decide (lo ≤ c) = true := decide_eq_true hlo
    rw [d1, Bool.true_and]
    go_enter Tryd.func107, Tryd.ntmps107
    go_wp2_with (go_at_call 108; refine hs.mono ?_; clear hs; rintro e w' ⟨rfl, hb2⟩)
    go_ret
    exact ⟨rfl, hb2⟩
  · have d1 : decide (lo ≤ c) = false := decide_eq_false hlo
    rw [d1, Bool.false_and]
    go_enter Tryd.func107, Tryd.ntmps107
    go_wp2_with (go_at_call 108; refine hs.mono ?_; clear hs; rintro e w' ⟨rfl, hb2⟩)
    go_ret
    exact ⟨rfl, hb2⟩

/-- All are bytes. -/
def Bytes (xs : List Int) : Prop := ∀ i, 0 ≤ xs.getD i 0 ∧ xs.getD i 0 ≤ 255
/-- Is the i-th byte behind the lead x right? -/
def okAt (x : Int) (ts : List Int) (i : Nat) : Bool := decide (classOf (ts.getD i 0) = 2) && (decide (i ≠ 0) || isSecond x (ts.getD i 0))
def okUpto (x : Int) (ts : List Int) (k : Nat) : Bool := (List.range k).all (okAt x ts)
/-- Are they just one encoding? -/
def wholeOf (xs : List Int) : Bool := decide (0 < xs.length) && decide (needOf (xs.getD 0 0) = xs.length) && okUpto (xs.getD 0 0) (xs.drop 1) (xs.length - 1)
theorem okUpto_succ (x : Int) (ts : List Int) (k : Nat) : okUpto x ts (k + 1) = (okUpto x ts k && okAt x ts k) := by
  simp [okUpto, List.range_succ]
theorem okUpto_stop {x : Int} {ts : List Int} {k m : Nat} (hk : k < m) (h : okAt x ts k = false) : okUpto x ts m = false := by
  unfold okUpto
  rw [List.all_eq_false]
  exact ⟨k, List.mem_range.2 hk, by rw [h]; simp⟩

set_option maxHeartbeats 1000000 in
set_option maxRecDepth 100000 in
theorem Whole_any (A : Option Addr) (n c : Nat) (xs : List Int) (w : World) (he : Env w) (hx : Bytes xs) (hr : ReadsInt w .u8 A n xs) (hc : n ≤ c) (hn : n ≤ 140737488351232) :
    Calls Tryd.prog 104 #[.slice A n c] w fun e w' => e = .returned (.bool (wholeOf xs)) ∧ Below w.heap.size w w' := by
  have hl : xs.length = n := hr.1
  by_cases hz : n = 0
  · have hw : wholeOf xs = false := by unfold wholeOf; rw [decide_eq_false (by omega)]; rfl
    rw [hw]
    have d0 : ((n : Int) == 0) = true := by rw [beq_iff_eq]; omega
    clear hw hz hl
    go_enter Tryd.func104, Tryd.ntmps104
    go_wp2
    go_ret
    exact ⟨rfl, Below.refl _ _⟩
  have d0 : ((n : Int) == 0) = false := by rw [beq_eq_false_iff_ne]; omega
  have hpos : 0 < n := by omega
  obtain ⟨ad, rfl, hcell⟩ := hr.2.2 (by omega)
  have hc0 : w.cell? ad = some (.int .u8 (xs.getD 0 0)) := by have := hcell 0 (by omega); rwa [add0] at this
  have x0 := hx 0
  have hw : wholeOf xs = (decide (needOf (xs.getD 0 0) = n) && okUpto (xs.getD 0 0) (xs.drop 1) (n - 1)) := by
    unfold wholeOf
    rw [decide_eq_true (by omega : 0 < xs.length), hl, Bool.true_and]
  rw [hw]
  clear hw
  generalize xs.getD 0 0 = X at *
  by_cases hne : needOf X = n
  · have dn : (needOf X != (n : Int)) = false := by rw [bne_eq_false_iff_eq]; exact hne
    rw [decide_eq_true hne, Bool.true_and]
    obtain ⟨A', hcut, hA'⟩ := cut_bytes_from (some ad) n c 1 (by omega) (by omega) hc
    have hrA := hA' w xs hr
    have hx' : Bytes (xs.drop 1) := fun i => by have := hx (1 + i); simpa [List.getD_eq_getElem?_getD, List.getElem?_drop, Nat.add_comm 1 i] using this
    simp only [Int.toNat_one] at hcut hrA
    generalize xs.drop 1 = ts at *
    clear hA' hcell hne hr hl hx
    go_enter Tryd.func104, Tryd.ntmps104
    go_wp2_with (first | (go_at_call 105; refine (Need_any _ x0.1 x0.2 _ he).mono ?_; rintro e w1 ⟨rfl, hb1⟩))
    go_loopw [20] (fun v wr => ∃ k : Nat, k ≤ n - 1 ∧ v = .int .i64 k ∧ okUpto X ts k = true ∧ Below w.heap.size w wr) (fun v _ => n - (intOf v).toNat)
    case atStart => exact ⟨0, by omega, rfl, rfl, hb1⟩
    case round =>
      obtain ⟨k, hk, rfl, hok, hbl⟩ := hrel
      by_cases hlt : k < n - 1
      · obtain ⟨ad', rfl, hcell⟩ := (hrA.below hbl).2.2 (by omega)
        have hck := hcell k hlt
        have hlt' : (k : Int) < ((n - 1 : Nat) : Int) := by omega
        have hck' : wr.cell? (ad'.add k) = some (.int .u8 (ts[k]?.getD 0)) := by rw [hck, List.getD_eq_getElem?_getD]
        have hxk := hx' k
        have her := he.below hbl
        have hw1 : wr.cell? ad = some (.int .u8 X) := pw_cell_below hbl hc0
        clear hcell hck
        have hoks := okUpto_succ X ts k
        have hstop := fun h => okUpto_stop (x := X) (ts := ts) hlt h
        unfold okAt at hoks hstop
        rw [hok, Bool.true_and] at hoks
        simp only [List.getD_eq_getElem?_getD] at hoks hstop hxk
        generalize ts[k]?.getD 0 = y at *
        by_cases hcl : classOf y = 2
        · have d1 : (classOf y != 2) = false := by rw [bne_eq_false_iff_eq]; exact hcl
          rw [decide_eq_true hcl, Bool.true_and] at hoks hstop
          by_cases hk0 : k = 0
          · have dk : ((k : Int) == 0) = true := by rw [beq_iff_eq]; omega
            rw [decide_eq_false (by omega : ¬ (k ≠ 0)), Bool.false_or] at hoks hstop
            clear hk0
            cases hs : isSecond X y
            · have R := Lib.hid (hstop hs)
              clear hstop hoks
              go_wp2_with (first | (go_at_call 106; refine (Class_any _ hxk.1 hxk.2 _ her).mono ?_; rintro e w2 ⟨rfl, hb2⟩; have hw2 := pw_cell_below hb2 hw1; have her2 := her.below hb2) | (go_at_call 107; refine (Second_any _ _ x0.1 x0.2 _ her2).mono ?_; rintro e w3 ⟨rfl, hb3⟩))
              go_ret
              exact ⟨by rw [R.out]; rfl, by (repeat (first | (with_reducible exact Below.refl _ _) | (with_reducible assumption) | (with_reducible apply bl_alloc) | (with_reducible apply bl_iter) | (with_reducible apply bl_drew) | (with_reducible apply bl_drewN) | (with_reducible refine bl_set ?_ (by first | assumption | (simp; done) | omega | (simp; omega)) _) | (with_reducible refine bl_then ?_ (by with_reducible assumption))))⟩
            · have R := Lib.hid (hoks.trans hs)
              clear hstop hoks
              go_wp2_with (first | (go_at_call 106; refine (Class_any _ hxk.1 hxk.2 _ her).mono ?_; rintro e w2 ⟨rfl, hb2⟩; have hw2 := pw_cell_below hb2 hw1; have her2 := her.below hb2) | (go_at_call 107; refine (Second_any _ _ x0.1 x0.2 _ her2).mono ?_; rintro e w3 ⟨rfl, hb3⟩))
              go_roundw
              case rel => exact ⟨k + 1, by omega, by go_num, R.out, by (repeat (first | (with_reducible exact Below.refl _ _) | (with_reducible assumption) | (with_reducible apply bl_alloc) | (with_reducible apply bl_iter) | (with_reducible apply bl_drew) | (with_reducible apply bl_drewN) | (with_reducible refine bl_set ?_ (by first | assumption | (simp; done) | omega | (simp; omega)) _) | (with_reducible refine bl_then ?_ (by with_reducible assumption))))⟩
              case measure => simp [intOf]; omega
          · have dk : ((k : Int) == 0) = false := by rw [beq_eq_false_iff_ne]; omega
            rw [decide_eq_true hk0, Bool.true_or] at hoks
            have R := Lib.hid hoks
            clear hk0 hstop hoks
            go_wp2_with (first | (go_at_call 106; refine (Class_any _ hxk.1 hxk.2 _ her).mono ?_; rintro e w2 ⟨rfl, hb2⟩; have hw2 := pw_cell_below hb2 hw1; have her2 := her.below hb2) | (go_at_call 107; refine (Second_any _ _ x0.1 x0.2 _ her2).mono ?_; rintro e w3 ⟨rfl, hb3⟩))
            go_roundw
            case rel => exact ⟨k + 1, by omega, by go_num, R.out, by (repeat (first | (with_reducible exact Below.refl _ _) | (with_reducible assumption) | (with_reducible apply bl_alloc) | (with_reducible apply bl_iter) | (with_reducible apply bl_drew) | (with_reducible apply bl_drewN) | (with_reducible refine bl_set ?_ (by first | assumption | (simp; done) | omega | (simp; omega)) _) | (with_reducible refine bl_then ?_ (by with_reducible assumption))))⟩
            case measure => simp [intOf]; omega
        · have d1 : (classOf y != 2) = true := by rw [bne_iff_ne]; exact hcl
          rw [decide_eq_false hcl, Bool.false_and] at hstop
          have R := Lib.hid (hstop rfl)
          clear hcl hstop hoks
          go_wp2_with (first | (go_at_call 106; refine (Class_any _ hxk.1 hxk.2 _ her).mono ?_; rintro e w2 ⟨rfl, hb2⟩; have hw2 := pw_cell_below hb2 hw1; have her2 := her.below hb2) | (go_at_call 107; refine (Second_any _ _ x0.1 x0.2 _ her2).mono ?_; rintro e w3 ⟨rfl, hb3⟩))
          go_ret
          exact ⟨by rw [R.out]; rfl, by (repeat (first | (with_reducible exact Below.refl _ _) | (with_reducible assumption) | (with_reducible apply bl_alloc) | (with_reducible apply bl_iter) | (with_reducible apply bl_drew) | (with_reducible apply bl_drewN) | (with_reducible refine bl_set ?_ (by first | assumption | (simp; done) | omega | (simp; omega)) _) | (with_reducible refine bl_then ?_ (by with_reducible assumption))))⟩
      · have hge : ((n - 1 : Nat) : Int) ≤ k := by omega
        have R := Lib.hid (show okUpto X ts (n - 1) = true by rw [show n - 1 = k from by omega]; exact hok)
        clear hok hk hlt
        go_wp2
        go_ret
        exact ⟨by rw [R.out]; rfl, by (repeat (first | (with_reducible exact Below.refl _ _) | (with_reducible assumption) | (with_reducible apply bl_alloc) | (with_reducible apply bl_iter) | (with_reducible apply bl_drew) | (with_reducible apply bl_drewN) | (with_reducible refine bl_set ?_ (by first | assumption | (simp; done) | omega | (simp; omega)) _) | (with_reducible refine bl_then ?_ (by with_reducible assumption))))⟩
  · have dn : (needOf X != (n : Int)) = true := by rw [bne_iff_ne]; exact hne
    rw [decide_eq_false hne, Bool.false_and]
    clear hcell hne hr hl hx
    go_enter Tryd.func104, Tryd.ntmps104
    go_wp2_with (first | (go_at_call 105; refine (Need_any _ x0.1 x0.2 _ he).mono ?_; rintro e w1 ⟨rfl, hb1⟩))
    go_ret
    exact ⟨rfl, hb1⟩

/-- The rune that is gathered out of the bytes behind a lead. -/
def valStart (X : Int) (n : Nat) : Int := wrap32 (bits BinOp.and IntKind.u8 X (([0, 127, 31, 15, 7] : List Int)[n]?.getD 0))
def valStep (q y : Int) : Int := bits BinOp.or IntKind.i32 (wrap32 (q * 64)) (wrap32 (bits BinOp.and IntKind.u8 y 63))
def valUpto (X : Int) (n : Nat) (ts : List Int) : Nat → Int
  | 0 => valStart X n
  | k + 1 => valStep (valUpto X n ts k) (ts[k]?.getD 0)
def valueOf (xs : List Int) : Int := if wholeOf xs then valUpto (xs.getD 0 0) xs.length (xs.drop 1) (xs.length - 1) else -1
set_option maxHeartbeats 1000000 in
set_option maxRecDepth 100000 in
theorem Value_any (A : Option Addr) (n c : Nat) (xs : List Int) (w : World) (he : Env w) (hx : Bytes xs) (hr : ReadsInt w .u8 A n xs) (hc : n ≤ c) (hn : n ≤ 140737488351232) :
    Calls Tryd.prog 102 #[.slice A n c] w fun e w' => e = .returned (.int .i32 (valueOf xs)) ∧ Below w.heap.size w w' := by
  have hl : xs.length = n := hr.1
  have hW := Whole_any A n c xs w he hx hr hc hn
  cases hw : wholeOf xs
  · rw [hw] at hW
    have hv : valueOf xs = -1 := by unfold valueOf; rw [hw]; rfl
    rw [hv]
    clear hv
    clear hw
    go_enter Tryd.func102, Tryd.ntmps102
    go_wp2_with (first | (go_at_call 104; refine hW.mono ?_; clear hW; rintro e w1 ⟨rfl, hb1⟩))
    go_ret
    exact ⟨rfl, hb1⟩
  · rw [hw] at hW
    have hv : valueOf xs = valUpto (xs.getD 0 0) xs.length (xs.drop 1) (xs.length - 1) := by unfold valueOf; rw [hw]; rfl
    rw [hv, hl]
    clear hv
    unfold wholeOf at hw
    simp only [Bool.and_eq_true, decide_eq_true_eq] at hw
    obtain ⟨⟨h1, h2⟩, -⟩ := hw
    have hnr := needOf_range (xs.getD 0 0)
    have hpos : 0 < n := by omega
    have hn4 : n ≤ 4 := by omega
    obtain ⟨ad, rfl, hcell⟩ := hr.2.2 (by omega)
    obtain ⟨A', hcut, hA'⟩ := cut_bytes_from (some ad) n c 1 (by omega) (by omega) hc
    have hrA := hA' w xs hr
    simp only [Int.toNat_one] at hcut hrA
    have hc0 : w.cell? ad = some (.int .u8 (xs.getD 0 0)) := by have := hcell 0 (by omega); rwa [add0] at this
    have V0 := Lib.hid (show valUpto (xs.getD 0 0) n (xs.drop 1) 0 = wrap32 (bits BinOp.and IntKind.u8 (xs.getD 0 0) (([0, 127, 31, 15, 7] : List Int)[n]?.getD 0)) from rfl)
    clear hcell hx hr h2
    generalize xs.getD 0 0 = X at *
    generalize xs.drop 1 = ts at *
    go_enter Tryd.func102, Tryd.ntmps102
    go_wp2_with (first | (go_at_call 104; refine hW.mono ?_; clear hW; rintro e w1 ⟨rfl, hb1⟩))
    have hw1 := pw_cell_below hb1 hc0
    have hm1 : w1.cell? ⟨1, n, none⟩ = some (.int .u8 (([0, 127, 31, 15, 7] : List Int).getD n 0)) := by
      refine (he.below hb1).masks n _ ?_
      obtain rfl | rfl | rfl | rfl : n = 1 ∨ n = 2 ∨ n = 3 ∨ n = 4 := by omega
      all_goals rfl
    have hn5 : (n : Int) < 5 := by omega
    clear he
    go_quiet (fail)
    go_wp2
    rw [← V0.out]
    go_loopw [3, 21] (fun r v wr => ∃ k : Nat, k ≤ n - 1 ∧ v = .int .i64 k ∧ r = .int .i32 (valUpto X n ts k) ∧ Below w.heap.size w wr) (fun _ v _ => n - (intOf v).toNat)
    case atStart => exact ⟨0, by omega, rfl, rfl, by (repeat (first | (with_reducible exact Below.refl _ _) | (with_reducible assumption) | (with_reducible apply bl_alloc) | (with_reducible apply bl_iter) | (with_reducible apply bl_drew) | (with_reducible apply bl_drewN) | (with_reducible refine bl_set ?_ (by first | assumption | (simp; done) | omega | (simp; omega)) _) | (with_reducible refine bl_then ?_ (by with_reducible assumption))))⟩
    case round =>
      obtain ⟨k, hk, rfl, rfl, hbl⟩ := hrel
      by_cases hlt : k < n - 1
      · obtain ⟨ad', rfl, hcell⟩ := (hrA.below hbl).2.2 (by omega)
        have hck := hcell k hlt
        have hlt' : (k : Int) < ((n - 1 : Nat) : Int) := by omega
        have hck' : wr.cell? (ad'.add k) = some (.int .u8 (ts[k]?.getD 0)) := by rw [hck, List.getD_eq_getElem?_getD]
        have R := Lib.hid (show valUpto X n ts (k + 1) = bits BinOp.or IntKind.i32 (wrap32 (valUpto X n ts k * 64)) (wrap32 (bits BinOp.and IntKind.u8 (ts[k]?.getD 0) 63)) from rfl)
        clear hcell hck
        generalize valUpto X n ts k = q at *
        generalize ts[k]?.getD 0 = y at *
        go_wp2
        go_roundw
        case rel => exact ⟨k + 1, by omega, by go_num, by rw [R.out], by (repeat (first | (with_reducible exact Below.refl _ _) | (with_reducible assumption) | (with_reducible apply bl_alloc) | (with_reducible apply bl_iter) | (with_reducible apply bl_drew) | (with_reducible apply bl_drewN) | (with_reducible refine bl_set ?_ (by first | assumption | (simp; done) | omega | (simp; omega)) _) | (with_reducible refine bl_then ?_ (by with_reducible assumption))))⟩
        case measure => simp [intOf]; omega
      · have hge : ((n - 1 : Nat) : Int) ≤ k := by omega
        have R := Lib.hid (show valUpto X n ts (n - 1) = valUpto X n ts k by rw [show n - 1 = k from by omega])
        clear hk hlt
        go_wp2
        go_ret
        exact ⟨by rw [R.out]; rfl, by (repeat (first | (with_reducible exact Below.refl _ _) | (with_reducible assumption) | (with_reducible apply bl_alloc) | (with_reducible apply bl_iter) | (with_reducible apply bl_drew) | (with_reducible apply bl_drewN) | (with_reducible refine bl_set ?_ (by first | assumption | (simp; done) | omega | (simp; omega)) _) | (with_reducible refine bl_then ?_ (by with_reducible assumption))))⟩
end Go.Proofs.YtcjplgcnjfinoaaDoor
