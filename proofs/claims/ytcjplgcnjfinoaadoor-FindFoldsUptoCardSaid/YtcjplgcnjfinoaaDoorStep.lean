/- Contracts of the functions of package step that tell edges: first, at, inside, Floor, Edge. Conditions: step.bad holds what its text lays. -/
import Derived.Test.YtcjplgcnjfinoaaDoorKit
namespace Go.Proofs.YtcjplgcnjfinoaaDoor
open Go.RowKit Go.Proofs.YtcjplgcnjfinoaaDoorW.PrintWords Go.Proofs.YtcjplgcnjfinoaaDoorW.PrintMore
attribute [local go_sem] iter_cell iter_frozen iter_size max2_int min2_int max_two min_two

/-- step.bad as its text lays it. -/
def BadIs (w : World) : Prop := Env w

/-- What first tells of a string. -/
def stepRune (s : ByteArray) : Int := if s.size = 0 then 65533 else (Utf8.decode s 0).1
def stepWhole (s : ByteArray) : Bool := decide (0 < s.size) && !(decide ((Utf8.decode s 0).1 = 65533) && !(decide (3 ≤ s.size) && ((s.extract 0 3).toList == [239, 191, 189])))
def stepWidth (s : ByteArray) : Int := if stepWhole s then (Utf8.encode (Utf8.decode s 0).1).size else 1

theorem HasPrefix_any (s p : ByteArray) (w : World) :
    Calls Tryd.prog 85 #[.string s, .string p] w fun e w' => e = .returned (.bool (decide (p.size ≤ s.size) && ((s.extract 0 p.size).toList == p.toList))) ∧ w = w' := by
  by_cases h : p.size ≤ s.size
  · have hd : decide (p.size ≤ s.size) = true := decide_eq_true h
    go_enter Tryd.func85, Tryd.ntmps85
    go_wp2
    go_ret
    exact ⟨by simp [h], rfl⟩
  · have hd : decide (p.size ≤ s.size) = false := decide_eq_false h
    go_enter Tryd.func85, Tryd.ntmps85
    go_wp2
    go_ret
    exact ⟨by simp [h], rfl⟩

theorem step_empty (s : ByteArray) (h : s.size = 0) : stepRune s = 65533 ∧ stepWidth s = 1 ∧ stepWhole s = false := by simp [stepRune, stepWidth, stepWhole, h]
theorem step_bad (s : ByteArray) (h : 0 < s.size) (hr : ((Utf8.decode s 0).1 : Int) = 65533) (hp : (decide (3 ≤ s.size) && ((s.extract 0 3).toList == [239, 191, 189])) = false) : stepRune s = 65533 ∧ stepWidth s = 1 ∧ stepWhole s = false := by
  have hw : stepWhole s = false := by simp only [stepWhole, hp]; simp; omega
  exact ⟨by rw [stepRune, if_neg (by omega)]; exact hr, by rw [stepWidth, hw]; rfl, hw⟩
theorem step_whole (s : ByteArray) (h : 0 < s.size) (hr : ((Utf8.decode s 0).1 : Int) ≠ 65533 ∨ (decide (3 ≤ s.size) && ((s.extract 0 3).toList == [239, 191, 189])) = true) : stepRune s = (Utf8.decode s 0).1 ∧ stepWidth s = (Utf8.encode (Utf8.decode s 0).1).size ∧ stepWhole s = true := by
  have hw : stepWhole s = true := by
    rcases hr with hr | hr
    · simp only [stepWhole, h]; simp; exact Or.inl (by omega)
    · simp only [stepWhole, h, hr]; simp
  exact ⟨by rw [stepRune, if_neg (by omega)], by rw [stepWidth, hw]; rfl, hw⟩

set_option maxHeartbeats 400000 in
theorem first_any (s : ByteArray) (w : World) (hb : BadIs w) :
    Calls Tryd.prog 81 #[.string s] w fun e w' => e = .returned (.agg #[.int .i32 (stepRune s), .int .i64 (stepWidth s), .bool (stepWhole s)]) ∧ Below w.heap.size w w' := by
  have b0 := hb.bad 0 _ rfl
  have b1 := hb.bad 1 _ rfl
  have b2 := hb.bad 2 _ rfl
  have hz : 0 < w.heap.size := cell_lt b0
  by_cases h0 : s.size = 0
  · have hn := run_next_end (P := Tryd.prog) (w.alloc (Obj.cells #[Value.int IntKind.i32 0, Value.int IntKind.i64 0, Value.bool false] 136)) s 0 0 (by omega)
    simp only [World.size_alloc] at hn
    rw [(step_empty s h0).1, (step_empty s h0).2.1, (step_empty s h0).2.2]
    go_enter Tryd.func81, Tryd.ntmps81
    go_wp2
    refine wp_loop_once ?_
    go_wp2
    exact bodyPost_ret (by simp [results, Tryd.results81, go_sem]) rfl ⟨rfl, by (repeat (first | (with_reducible exact Below.refl _ _) | (with_reducible assumption) | (with_reducible apply bl_alloc) | (with_reducible apply bl_iter) | (with_reducible apply bl_drew) | (with_reducible apply bl_drewN) | (with_reducible refine bl_set ?_ (by first | assumption | (simp; done) | omega | (simp; omega)) _) | (with_reducible refine bl_then ?_ (by with_reducible assumption))))⟩
  · have h1 : 0 < s.size := by omega
    have hn := run_next_any (P := Tryd.prog) (w.alloc (Obj.cells #[Value.int IntKind.i32 0, Value.int IntKind.i64 0, Value.bool false] 136)) s 0 0 h1
    simp only [World.size_alloc, Nat.zero_add] at hn
    by_cases hr : ((Utf8.decode s 0).1 : Int) = 65533
    · cases hp : (decide (3 ≤ s.size) && ((s.extract 0 3).toList == [239, 191, 189]))
      · obtain ⟨e1, e2, e3⟩ := step_bad s h1 hr hp
        rw [e1, e2, e3]
        clear e1 e2 e3
        go_enter Tryd.func81, Tryd.ntmps81
        go_wp2
        refine wp_loop_once ?_
        go_wp2_with (go_at_call 85; refine (HasPrefix_any _ _ _).mono ?_; rintro e w' ⟨rfl, rfl⟩)
        exact bodyPost_ret (by simp [results, Tryd.results81, go_sem]) rfl ⟨rfl, by (repeat (first | (with_reducible exact Below.refl _ _) | (with_reducible assumption) | (with_reducible apply bl_alloc) | (with_reducible apply bl_iter) | (with_reducible apply bl_drew) | (with_reducible apply bl_drewN) | (with_reducible refine bl_set ?_ (by first | assumption | (simp; done) | omega | (simp; omega)) _) | (with_reducible refine bl_then ?_ (by with_reducible assumption))))⟩
      · obtain ⟨e1, e2, e3⟩ := step_whole s h1 (.inr hp)
        rw [e1, e2, e3, hr]
        clear e1 e2 e3
        go_enter Tryd.func81, Tryd.ntmps81
        go_wp2
        refine wp_loop_once ?_
        go_wp2_with (go_at_call 85; refine (HasPrefix_any _ _ _).mono ?_; rintro e w' ⟨rfl, rfl⟩)
        exact bodyPost_ret (by simp [results, Tryd.results81, go_sem]) rfl ⟨rfl, by (repeat (first | (with_reducible exact Below.refl _ _) | (with_reducible assumption) | (with_reducible apply bl_alloc) | (with_reducible apply bl_iter) | (with_reducible apply bl_drew) | (with_reducible apply bl_drewN) | (with_reducible refine bl_set ?_ (by first | assumption | (simp; done) | omega | (simp; omega)) _) | (with_reducible refine bl_then ?_ (by with_reducible assumption))))⟩
    · obtain ⟨e1, e2, e3⟩ := step_whole s h1 (.inl hr)
      rw [e1, e2, e3]
      clear e1 e2 e3
      go_enter Tryd.func81, Tryd.ntmps81
      go_wp2
      refine wp_loop_once ?_
      go_wp2
      exact bodyPost_ret (by simp [results, Tryd.results81, go_sem]) rfl ⟨rfl, by (repeat (first | (with_reducible exact Below.refl _ _) | (with_reducible assumption) | (with_reducible apply bl_alloc) | (with_reducible apply bl_iter) | (with_reducible apply bl_drew) | (with_reducible apply bl_drewN) | (with_reducible refine bl_set ?_ (by first | assumption | (simp; done) | omega | (simp; omega)) _) | (with_reducible refine bl_then ?_ (by with_reducible assumption))))⟩

theorem BadIs.below {w w' : World} (h : BadIs w) (hb : Below w.heap.size w w') : BadIs w' :=
  Env.below h hb

/-- The bytes that 'at' looks at. -/
def chunk (xs : List Int) (p : Nat) : ByteArray := strOfNums ((xs.drop p).take 4)

set_option maxHeartbeats 400000 in
set_option maxRecDepth 100000 in
theorem at_any (A : Option Addr) (n c : Nat) (xs : List Int) (p : Int) (w : World) (hb : BadIs w) (hr : ReadsInt w .u8 A n xs) (hc : n ≤ c) (h0 : 0 ≤ p) (h1 : p ≤ n) (hn : n ≤ 140737488351232) :
    Calls Tryd.prog 75 #[.slice A n c, .int .i64 p] w fun e w' => e = .returned (.agg #[.int .i32 (stepRune (chunk xs p.toNat)), .int .i64 (stepWidth (chunk xs p.toNat)), .bool (stepWhole (chunk xs p.toNat))]) ∧ Below w.heap.size w w' := by
  unfold chunk
  by_cases h4 : p + 4 ≤ n
  · obtain ⟨A', hcut, hA'⟩ := cut_bytes A n c p (p + 4) h0 (by omega) (by omega) hc
    have hr1 := hA' _ _ (hr.below (bl_alloc (Below.refl _ w) (Obj.cells #[Value.int IntKind.i32 0, Value.int IntKind.i64 0, Value.bool false] 136)))
    have hstr := bytes_string (c := c - p.toNat) hr1
    have hb1 := hb.below (bl_alloc (Below.refl _ w) (Obj.cells #[Value.int IntKind.i32 0, Value.int IntKind.i64 0, Value.bool false] 136))
    have he : ((xs.take (p + 4).toNat).drop p.toNat) = (xs.drop p.toNat).take 4 := by
      rw [List.drop_take, show (p + 4).toNat - p.toNat = 4 from by omega]
    rw [he] at hstr
    clear he hr1 hA' hr
    go_enter Tryd.func75, Tryd.ntmps75
    go_wp2_with (go_at_call 81; refine (first_any _ _ hb1).mono ?_; rintro e w' ⟨rfl, hb2⟩; obtain ⟨hcl, hfr⟩ := bcell hb2)
    have hz := hb2.size
    simp only [World.size_alloc] at hz
    exact bodyPost_ret (by simp [results, Tryd.results75, go_sem, hcl]) rfl ⟨rfl, by (repeat (first | (with_reducible exact Below.refl _ _) | (with_reducible assumption) | (with_reducible apply bl_alloc) | (with_reducible apply bl_iter) | (with_reducible apply bl_drew) | (with_reducible apply bl_drewN) | (with_reducible refine bl_set ?_ (by first | assumption | (simp; done) | omega | (simp; omega)) _) | (with_reducible refine bl_then ?_ (by with_reducible assumption))))⟩
  · have h5 : (n : Int) < p + 4 := by omega
    obtain ⟨A', hcut, hA'⟩ := cut_bytes A n c p n h0 (by omega) (by omega) hc
    have hr1 := hA' _ _ (hr.below (bl_alloc (Below.refl _ w) (Obj.cells #[Value.int IntKind.i32 0, Value.int IntKind.i64 0, Value.bool false] 136)))
    have hstr := bytes_string (c := c - p.toNat) hr1
    have hb1 := hb.below (bl_alloc (Below.refl _ w) (Obj.cells #[Value.int IntKind.i32 0, Value.int IntKind.i64 0, Value.bool false] 136))
    have he : ((xs.take (n : Int).toNat).drop p.toNat) = (xs.drop p.toNat).take 4 := by
      have hl := hr.1
      rw [List.take_of_length_le (by omega), List.take_of_length_le (by rw [List.length_drop]; omega)]
    rw [he] at hstr
    rw [Int.toNat_natCast] at hstr
    clear he hr1 hA' hr
    go_enter Tryd.func75, Tryd.ntmps75
    go_wp2_with (go_at_call 81; refine (first_any _ _ hb1).mono ?_; rintro e w' ⟨rfl, hb2⟩; obtain ⟨hcl, hfr⟩ := bcell hb2)
    have hz := hb2.size
    simp only [World.size_alloc] at hz
    exact bodyPost_ret (by simp [results, Tryd.results75, go_sem, hcl]) rfl ⟨rfl, by (repeat (first | (with_reducible exact Below.refl _ _) | (with_reducible assumption) | (with_reducible apply bl_alloc) | (with_reducible apply bl_iter) | (with_reducible apply bl_drew) | (with_reducible apply bl_drewN) | (with_reducible refine bl_set ?_ (by first | assumption | (simp; done) | omega | (simp; omega)) _) | (with_reducible refine bl_then ?_ (by with_reducible assumption))))⟩

theorem field_Step1 (r d b : Value) (w : World) : (Instr.field 136 (.agg #[r, d, b]) 1).run Tryd.prog w = .ok d w := by kernel_rfl
/-- Does the step that begins j bytes ahead of p go over it? -/
def overAt (xs : List Int) (p j : Nat) : Bool := decide ((j : Int) < stepWidth (chunk xs (p - j)))
/-- How far ahead of p the encoding begins that goes over it; 0: none does. -/
def insideOf (xs : List Int) (p : Nat) : Nat :=
  if 1 ≤ p ∧ overAt xs p 1 = true then 1 else if 2 ≤ p ∧ overAt xs p 2 = true then 2 else if 3 ≤ p ∧ overAt xs p 3 = true then 3 else 0
theorem insideOf_le (xs : List Int) (p : Nat) : insideOf xs p ≤ p := by
  unfold insideOf
  split
  · omega
  · split
    · omega
    · split <;> omega
def NotOver (xs : List Int) (p k : Nat) : Prop := ∀ j, 1 ≤ j → j < k → overAt xs p j = false
theorem inside_hit {xs : List Int} {p k : Nat} (h : NotOver xs p k) (h1 : 1 ≤ k) (h3 : k ≤ 3) (hp : k ≤ p) (ho : overAt xs p k = true) : insideOf xs p = k := by
  unfold insideOf
  obtain rfl | rfl | rfl : k = 1 ∨ k = 2 ∨ k = 3 := by omega
  · rw [if_pos ⟨hp, ho⟩]
  · rw [if_neg (by rw [h 1 (by omega) (by omega)]; simp), if_pos ⟨hp, ho⟩]
  · rw [if_neg (by rw [h 1 (by omega) (by omega)]; simp), if_neg (by rw [h 2 (by omega) (by omega)]; simp), if_pos ⟨hp, ho⟩]
theorem inside_miss {xs : List Int} {p k : Nat} (h : NotOver xs p k) (hk : ¬ (k ≤ 3 ∧ k ≤ p)) : insideOf xs p = 0 := by
  unfold insideOf
  have g : ∀ j, 1 ≤ j → j ≤ 3 → ¬ (j ≤ p ∧ overAt xs p j = true) := fun j h1 h3 ⟨hp, ho⟩ => by
    rw [h j h1 (by omega)] at ho
    cases ho
  rw [if_neg (g 1 (by omega) (by omega)), if_neg (g 2 (by omega) (by omega)), if_neg (g 3 (by omega) (by omega))]
theorem NotOver.succ {xs : List Int} {p k : Nat} (h : NotOver xs p k) (ho : overAt xs p k = false) : NotOver xs p (k + 1) := fun j h1 h2 => by
  rcases Nat.lt_or_ge j k with h' | h'
  · exact h j h1 h'
  · rw [show j = k from by omega]; exact ho

set_option maxHeartbeats 400000 in
set_option maxRecDepth 100000 in
theorem inside_any (A : Option Addr) (n c : Nat) (xs : List Int) (p : Int) (w : World) (hb : BadIs w) (hr : ReadsInt w .u8 A n xs) (hc : n ≤ c) (h0 : 0 ≤ p) (h1 : p ≤ n) (hn : n ≤ 140737488351232) :
    Calls Tryd.prog 56 #[.slice A n c, .int .i64 p] w fun e w' => e = .returned (.int .i64 (insideOf xs p.toNat)) ∧ Below w.heap.size w w' := by
  obtain ⟨P, rfl⟩ := Int.eq_ofNat_of_zero_le h0
  rw [Int.toNat_natCast]
  have hfld := field_Step1
  go_enter Tryd.func56, Tryd.ntmps56
  go_wp2_with fail
  go_loopw [5] (fun v wr => ∃ k : Nat, 1 ≤ k ∧ k ≤ 4 ∧ k ≤ P + 1 ∧ v = .int .i64 k ∧ NotOver xs P k ∧ Below w.heap.size w wr) (fun v _ => 4 - (intOf v).toNat)
  case atStart => exact ⟨1, by omega, by omega, by omega, rfl, fun j h1 h2 => by omega, Below.refl _ _⟩
  case round =>
    obtain ⟨k, hk1, hk4, hkP, rfl, hno, hbl⟩ := hrel
    by_cases hk : k ≤ 3 ∧ k ≤ P
    · obtain ⟨hk3, hkp⟩ := hk
      have hb1 := hb.below hbl
      have hr1 := hr.below hbl
      cases ho : overAt xs P k
      · have ho' : decide ((k : Int) < stepWidth (chunk xs (P - k))) = false := ho
        have R := Lib.hid (hno.succ ho)
        clear ho
        go_wp2_with (go_at_call 75; refine (at_any A n c xs _ _ hb1 hr1 hc (by omega) (by omega) hn).mono ?_; rintro e w' ⟨rfl, hb2⟩; rw [show ((P : Int) - (k : Int)).toNat = P - k from by omega])
        go_roundw
        case rel => exact ⟨k + 1, by omega, by omega, by omega, by go_num, R.out, bl_then hbl hb2⟩
        case measure => simp [intOf]; omega
      · have ho' : decide ((k : Int) < stepWidth (chunk xs (P - k))) = true := ho
        have R := Lib.hid (inside_hit hno hk1 hk3 hkp ho)
        clear ho
        go_wp2_with (go_at_call 75; refine (at_any A n c xs _ _ hb1 hr1 hc (by omega) (by omega) hn).mono ?_; rintro e w' ⟨rfl, hb2⟩; rw [show ((P : Int) - (k : Int)).toNat = P - k from by omega])
        go_ret
        exact ⟨by rw [R.out]; rfl, bl_then hbl hb2⟩
    · have R := Lib.hid (inside_miss hno hk)
      by_cases hk3 : k ≤ 3
      · have hkp : ¬ k ≤ P := fun h => hk ⟨hk3, h⟩
        clear hk
        go_wp2
        go_ret
        exact ⟨by rw [R.out]; rfl, hbl⟩
      · clear hk
        go_wp2
        go_ret
        exact ⟨by rw [R.out]; rfl, hbl⟩

set_option maxHeartbeats 400000 in
set_option maxRecDepth 100000 in
theorem Floor_any (A : Option Addr) (n c : Nat) (xs : List Int) (p : Int) (w : World) (hb : BadIs w) (hr : ReadsInt w .u8 A n xs) (hc : n ≤ c) (hn : n ≤ 140737488351232) :
    Calls Tryd.prog 38 #[.slice A n c, .int .i64 p] w fun e w' => e = .returned (.tuple #[.int .i64 (if p < 0 ∨ n < p then 0 else p - insideOf xs p.toNat), .int .i64 (if p < 0 ∨ n < p then 2 else 0)]) ∧ Below w.heap.size w w' := by
  by_cases h : p < 0 ∨ n < p
  · rw [if_pos h, if_pos h]
    by_cases h1 : p < 0
    · clear h
      go_enter Tryd.func38, Tryd.ntmps38
      go_wp2
      go_ret2
      exact ⟨rfl, Below.refl _ _⟩
    · have h2 : (n : Int) < p := by omega
      clear h
      go_enter Tryd.func38, Tryd.ntmps38
      go_wp2
      go_ret2
      exact ⟨rfl, Below.refl _ _⟩
  · rw [if_neg h, if_neg h]
    have h0 : 0 ≤ p := by omega
    have h1 : p ≤ n := by omega
    have hle := insideOf_le xs p.toNat
    clear h
    go_enter Tryd.func38, Tryd.ntmps38
    go_wp2_with (go_at_call 56; refine (inside_any A n c xs _ _ hb hr hc h0 h1 hn).mono ?_; rintro e w' ⟨rfl, hb2⟩)
    go_ret2
    exact ⟨rfl, hb2⟩

/-- Is it an edge of these bytes? -/
def edgeAt (xs : List Int) (p : Int) : Bool := decide (0 ≤ p ∧ p ≤ xs.length) && decide (insideOf xs p.toNat = 0)

set_option maxHeartbeats 400000 in
set_option maxRecDepth 100000 in
theorem Edge_any (A : Option Addr) (n c : Nat) (xs : List Int) (p : Int) (w : World) (hb : BadIs w) (hr : ReadsInt w .u8 A n xs) (hc : n ≤ c) (hn : n ≤ 140737488351232) :
    Calls Tryd.prog 20 #[.slice A n c, .int .i64 p] w fun e w' => e = .returned (.bool (edgeAt xs p)) ∧ Below w.heap.size w w' := by
  have hl : xs.length = n := hr.1
  have hF := Floor_any A n c xs p w hb hr hc hn
  by_cases h : p < 0 ∨ n < p
  · have he : edgeAt xs p = false := by
      unfold edgeAt
      rw [hl, decide_eq_false (by omega : ¬ (0 ≤ p ∧ p ≤ (n : Int)))]
      rfl
    rw [he]
    simp only [if_pos h] at hF
    clear h he
    go_enter Tryd.func20, Tryd.ntmps20
    go_wp2_with (go_at_call 38; refine hF.mono ?_; clear hF; rintro e w' ⟨rfl, hb2⟩)
    go_ret
    exact ⟨rfl, hb2⟩
  · simp only [if_neg h] at hF
    have h1 : decide (0 ≤ p ∧ p ≤ (n : Int)) = true := decide_eq_true (by omega)
    by_cases hi : insideOf xs p.toNat = 0
    · have he : edgeAt xs p = true := by unfold edgeAt; rw [hl, h1, decide_eq_true hi]; rfl
      have hq : ((p - (insideOf xs p.toNat : Int)) == p) = true := by rw [hi]; simp
      rw [he]
      clear h he hi h1
      go_enter Tryd.func20, Tryd.ntmps20
      go_wp2_with (go_at_call 38; refine hF.mono ?_; clear hF; rintro e w' ⟨rfl, hb2⟩)
      go_ret
      exact ⟨rfl, hb2⟩
    · have he : edgeAt xs p = false := by unfold edgeAt; rw [hl, h1, decide_eq_false hi]; rfl
      have hq : ((p - (insideOf xs p.toNat : Int)) == p) = false := by rw [beq_eq_false_iff_ne]; omega
      rw [he]
      clear h he hi h1
      go_enter Tryd.func20, Tryd.ntmps20
      go_wp2_with (go_at_call 38; refine hF.mono ?_; clear hF; rintro e w' ⟨rfl, hb2⟩)
      go_ret
      exact ⟨rfl, hb2⟩
end Go.Proofs.YtcjplgcnjfinoaaDoor
