/- What package find asks of two bytes: likeness, its closures, exact. Contract of (*find.look).stands, exact. -/
import Derived.Test.YtcjplgcnjfinoaaDoorLeaf
import Derived.Test.YtcjplgcnjfinoaaDoorWeldE
namespace Go.Proofs.YtcjplgcnjfinoaaDoor
open Go.RowKit Go.Shelf Go.Proofs.YtcjplgcnjfinoaaDoorW.PrintWords Go.Proofs.YtcjplgcnjfinoaaDoorW.PrintMore
attribute [local go_sem] max2_int min2_int max_two min_two

/-- A store of a function value. -/
theorem run_store_func {P : Program} {w : World} {a : Addr} {m : Mode} (f : Fn) (ts xs : Array Value) : (store a (.func f ts xs) m).run P w = stored P w a (.func f ts xs) m := run_store P w a _ m rfl
attribute [local go_sem] run_store_func
/-- A great letter of ASCII made small; two bytes alike. -/
def lowI (c : Int) : Int := if 65 ≤ c ∧ c ≤ 90 then c + 32 else c
def alikeI (fold : Bool) (a b : Int) : Bool := if fold then lowI a == lowI b else a == b

theorem like1_any (a b : Int) (w : World) :
    Calls Tryd.prog 72 #[.int .u8 a, .int .u8 b] w fun e w' => e = .returned (.bool (a == b)) ∧ w = w' := by
  go_enter Tryd.func72, Tryd.ntmps72
  go_wp2
  go_ret
  exact ⟨by simp, rfl⟩
theorem low_any (c : Int) (h0 : 0 ≤ c) (h1 : c ≤ 255) (w : World) :
    Calls Tryd.prog 73 #[.int .u8 c] w fun e w' => e = .returned (.int .u8 (lowI c)) ∧ w = w' := by
  unfold lowI
  by_cases h : 65 ≤ c ∧ c ≤ 90
  · rw [if_pos h]
    obtain ⟨h2, h3⟩ := h
    have g1 : IntKind.u8.wrap (c + 97) = c + 97 := IntWalk.u8_in _ (by omega)
    have g2 : IntKind.u8.wrap (c + 97 - 65) = c + 32 := by rw [IntWalk.u8_in _ (by omega)]; omega
    go_enter Tryd.func73, Tryd.ntmps73
    go_wp2
    go_ret
    exact ⟨rfl, rfl⟩
  · rw [if_neg h]
    by_cases h2 : 65 ≤ c
    · have h3 : ¬ c ≤ 90 := fun h3 => h ⟨h2, h3⟩
      clear h
      go_enter Tryd.func73, Tryd.ntmps73
      go_wp2
      go_ret
      exact ⟨rfl, rfl⟩
    · clear h
      go_enter Tryd.func73, Tryd.ntmps73
      go_wp2
      go_ret
      exact ⟨rfl, rfl⟩
set_option maxRecDepth 100000 in
theorem like3_any (a b : Int) (ha : 0 ≤ a ∧ a ≤ 255) (hb : 0 ≤ b ∧ b ≤ 255) (q : Nat) (w : World) (hq : Blk w q #[.func (.func 73) #[] #[]] 114) :
    Calls Tryd.prog 74 #[.int .u8 a, .int .u8 b, .pointer (some ⟨q, 0, none⟩)] w fun e w' => e = .returned (.bool (lowI a == lowI b)) ∧ Below w.heap.size w w' := by
  have c0 : w.cell? ⟨q, 0, none⟩ = some (.func (.func 73) #[] #[]) := hq.cell 0
  have q1 := fun w => low_any a ha.1 ha.2 w
  have q2 := fun w => low_any b hb.1 hb.2 w
  have k0 : w.cell? ⟨q, 0, none⟩ = some (.func (.func 73) #[] #[]) ∧ Below w.heap.size w w := ⟨c0, Below.refl _ _⟩
  have k1 : w.drew.cell? ⟨q, 0, none⟩ = some (.func (.func 73) #[] #[]) ∧ Below w.heap.size w w.drew := ⟨c0, by (repeat (first | (with_reducible exact Below.refl _ _) | (with_reducible assumption) | (with_reducible apply bl_alloc) | (with_reducible apply bl_iter) | (with_reducible apply bl_drew) | (with_reducible apply bl_drewN) | (with_reducible refine bl_set ?_ (by first | assumption | (simp; done) | omega | (simp; omega)) _) | (with_reducible refine bl_then ?_ (by with_reducible assumption))))⟩
  clear hq ha hb
  generalize lowI a = x at *
  generalize lowI b = y at *
  go_enter Tryd.func74, Tryd.ntmps74
  go_wp2
  go_region_held3 (fun W => W.cell? ⟨q, 0, none⟩ = some (.func (.func 73) #[] #[]) ∧ Below w.heap.size w W)
    (first | (with_reducible exact k1) | (with_reducible exact k0))
    (first
    | (go_at_call 73; refine (q1 _).mono ?_; clear q1; rintro e w1 ⟨rfl, rfl⟩)
    | (go_at_call 73; refine (q2 _).mono ?_; clear q2; rintro e w1 ⟨rfl, rfl⟩))
  all_goals go_wp2
  all_goals go_ret
  all_goals exact ⟨by simp, by (repeat (first | (with_reducible exact Below.refl _ _) | (with_reducible assumption) | (with_reducible apply bl_alloc) | (with_reducible apply bl_iter) | (with_reducible apply bl_drew) | (with_reducible apply bl_drewN) | (with_reducible refine bl_set ?_ (by first | assumption | (simp; done) | omega | (simp; omega)) _) | (with_reducible refine bl_then ?_ (by with_reducible assumption))))⟩

/-- A function value that tells whether two bytes are alike. -/
def LikeAt (W : World) (F : Value) (fold : Bool) : Prop :=
  (fold = false ∧ F = .func (.func 72) #[] #[]) ∨ (fold = true ∧ ∃ q, F = .func (.func 74) #[] #[.pointer (some ⟨q, 0, none⟩)] ∧ Blk W q #[.func (.func 73) #[] #[]] 114)
theorem LikeAt.below {W W' : World} {F : Value} {fold : Bool} (h : LikeAt W F fold) (hb : Below W.heap.size W W') : LikeAt W' F fold :=
  h.imp id fun ⟨h1, q, h2, h3⟩ => ⟨h1, q, h2, h3.below hb⟩
theorem likeness_any (fold : Bool) (w : World) :
    Calls Tryd.prog 55 #[.bool fold] w fun e w' => (∃ F, e = .returned F ∧ LikeAt w' F fold) ∧ Below w.heap.size w w' := by
  cases fold
  · go_enter Tryd.func55, Tryd.ntmps55
    go_wp2
    go_ret
    exact ⟨⟨_, rfl, .inl ⟨rfl, rfl⟩⟩, by (repeat (first | (with_reducible exact Below.refl _ _) | (with_reducible assumption) | (with_reducible apply bl_alloc) | (with_reducible apply bl_iter) | (with_reducible apply bl_drew) | (with_reducible apply bl_drewN) | (with_reducible refine bl_set ?_ (by first | assumption | (simp; done) | omega | (simp; omega)) _) | (with_reducible refine bl_then ?_ (by with_reducible assumption))))⟩
  · go_enter Tryd.func55, Tryd.ntmps55
    go_wp2
    go_ret
    exact ⟨⟨_, rfl, .inr ⟨rfl, _, rfl, Blk.new _ _ _⟩⟩, by (repeat (first | (with_reducible exact Below.refl _ _) | (with_reducible assumption) | (with_reducible apply bl_alloc) | (with_reducible apply bl_iter) | (with_reducible apply bl_drew) | (with_reducible apply bl_drewN) | (with_reducible refine bl_set ?_ (by first | assumption | (simp; done) | omega | (simp; omega)) _) | (with_reducible refine bl_then ?_ (by with_reducible assumption))))⟩
end Go.Proofs.YtcjplgcnjfinoaaDoor

namespace Go.Proofs.YtcjplgcnjfinoaaDoor
open Go.RowKit Go.Shelf Go.Proofs.YtcjplgcnjfinoaaDoorW.PrintWords Go.Proofs.YtcjplgcnjfinoaaDoorW.PrintMore
attribute [local go_sem] max2_int min2_int max_two min_two

/-- Are a needle's first k bytes alike those of a text from a place on? -/
def needUpto (fold : Bool) (xs ns : List Int) (lo k : Nat) : Bool := (List.range k).all fun j => alikeI fold (xs.getD (lo + j) 0) (ns.getD j 0)
theorem needUpto_succ (fold : Bool) (xs ns : List Int) (lo k : Nat) : needUpto fold xs ns lo (k + 1) = (needUpto fold xs ns lo k && alikeI fold (xs.getD (lo + k) 0) (ns.getD k 0)) := by
  simp [needUpto, List.range_succ]
theorem needUpto_stop {fold : Bool} {xs ns : List Int} {lo k m : Nat} (hk : k < m) (h : alikeI fold (xs.getD (lo + k) 0) (ns.getD k 0) = false) : needUpto fold xs ns lo m = false := by
  unfold needUpto
  rw [List.all_eq_false]
  exact ⟨k, List.mem_range.2 hk, by rw [h]; simp⟩
/-- Does the needle stand there? -/
def standsI (fold : Bool) (xs ns : List Int) (lo : Nat) : Bool := decide (lo + ns.length ≤ xs.length) && (needUpto fold xs ns lo ns.length && (edgeAt xs lo && edgeAt xs (lo + ns.length : Nat)))

/-- A text in which a needle is looked for. -/
structure Look (W : World) (l : Nat) (A : Option Addr) (n c : Nat) (xs : List Int) (B : Option Addr) (m d : Nat) (ns : List Int) (F : Value) (fold : Bool) : Prop where
  blk : Blk W l #[.slice A n c, .slice B m d, F] 76
  text : ReadsInt W .u8 A n xs
  room : n ≤ c
  size : n ≤ 268435456
  needle : ReadsInt W .u8 B m ns
  room' : m ≤ d
  size' : m ≤ 268435456
  like : LikeAt W F fold
  env : Env W
theorem Look.below {W W' : World} {l n c m d : Nat} {A B : Option Addr} {xs ns : List Int} {F : Value} {fold : Bool} (h : Look W l A n c xs B m d ns F fold) (hb : Below W.heap.size W W') : Look W' l A n c xs B m d ns F fold :=
  ⟨h.blk.below hb, h.text.below hb, h.room, h.size, h.needle.below hb, h.room', h.size', h.like.below hb, h.env.below hb⟩
theorem byte_reads {W : World} {A : Option Addr} {n : Nat} {xs : List Int} (h : ReadsInt W .u8 A n xs) (hx : ∀ i, 0 ≤ xs.getD i 0 ∧ xs.getD i 0 ≤ 255) (k : Nat) (hk : k < n) : ∃ ad, A = some ad ∧ W.cell? (ad.add k) = some (.int .u8 (xs.getD k 0)) ∧ 0 ≤ xs.getD k 0 ∧ xs.getD k 0 ≤ 255 := by
  obtain ⟨ad, e, hc⟩ := h.2.2 (by omega)
  exact ⟨ad, e, hc k hk, hx k⟩

set_option maxRecDepth 100000 in
set_option maxHeartbeats 4000000 in
theorem stands_far {l n c m d : Nat} {A B : Option Addr} {xs ns : List Int} {F : Value} {fold : Bool} (lo : Nat) (hlo : lo ≤ 268435456) (h : ¬ lo + m ≤ n) (w : World) (hl : Look w l A n c xs B m d ns F fold) :
    Calls Tryd.prog 39 #[.pointer (some ⟨l, 0, none⟩), .int .i64 lo] w fun e w' => e = .returned (.bool false) ∧ Below w.heap.size w w' := by
  have c0 : w.cell? ⟨l, 0, none⟩ = some (.slice A n c) := hl.blk.cell 0
  have c1 : w.cell? ⟨l, 1, none⟩ = some (.slice B m d) := hl.blk.cell 1
  have h2 := hl.size'
  have g1 : IntKind.i64.wrap ((lo : Int) + m) = (lo : Int) + m := IntWalk.i64_in _ (by omega)
  have g2 : (n : Int) < (lo : Int) + m := by omega
  clear hl h
  go_enter Tryd.func39, Tryd.ntmps39
  go_wp2
  go_ret
  exact ⟨rfl, by (repeat (first | (with_reducible exact Below.refl _ _) | (with_reducible assumption) | (with_reducible apply bl_alloc) | (with_reducible apply bl_iter) | (with_reducible apply bl_drew) | (with_reducible apply bl_drewN) | (with_reducible refine bl_set ?_ (by first | assumption | (simp; done) | omega | (simp; omega)) _) | (with_reducible refine bl_then ?_ (by with_reducible assumption))))⟩

set_option maxRecDepth 100000 in
set_option maxHeartbeats 4000000 in
theorem stands_false {l n c m d : Nat} {A B : Option Addr} {xs ns : List Int} {F : Value} (hx : ∀ i, 0 ≤ xs.getD i 0 ∧ xs.getD i 0 ≤ 255) (hy : ∀ i, 0 ≤ ns.getD i 0 ∧ ns.getD i 0 ≤ 255) (lo : Nat) (hlo : lo + m ≤ n) (w : World) (hl : Look w l A n c xs B m d ns F false) :
    Calls Tryd.prog 39 #[.pointer (some ⟨l, 0, none⟩), .int .i64 lo] w fun e w' => e = .returned (.bool (standsI false xs ns lo)) ∧ Below w.heap.size w w' := by
  obtain ⟨-, rfl⟩ | ⟨h, -⟩ := hl.like
  case inr => cases h
  have hxl : xs.length = n := hl.text.1
  have hnl : ns.length = m := hl.needle.1
  have hcast : ((lo + m : Nat) : Int) = (lo : Int) + m := by omega
  have hS : standsI false xs ns lo = (needUpto false xs ns lo m && (edgeAt xs lo && edgeAt xs ((lo : Int) + m))) := by
    unfold standsI
    rw [hxl, hnl, decide_eq_true hlo, Bool.true_and, hcast]
  obtain ⟨R, hR⟩ : ∃ R, R = standsI false xs ns lo := ⟨_, rfl⟩
  rw [← hR]
  rw [hS] at hR
  have c0 : w.cell? ⟨l, 0, none⟩ = some (.slice A n c) := hl.blk.cell 0
  have c1 : w.cell? ⟨l, 1, none⟩ = some (.slice B m d) := hl.blk.cell 1
  have c2 : w.cell? ⟨l, 2, none⟩ = some (.func (.func 72) #[] #[]) := hl.blk.cell 2
  have h2 := hl.size'
  have h3 := hl.size
  have KC := Lib.hid (fun W (h : Below w.heap.size w W) => (show W.cell? ⟨l, 0, none⟩ = some (.slice A n c) ∧ W.cell? ⟨l, 1, none⟩ = some (.slice B m d) ∧ W.cell? ⟨l, 2, none⟩ = some (.func (.func 72) #[] #[]) from ⟨(hl.blk.below h).cell 0, (hl.blk.below h).cell 1, (hl.blk.below h).cell 2⟩))
  have HX := Lib.hid (fun k (hk : lo + k < n) => byte_reads hl.text hx (lo + k) hk)
  have HY := Lib.hid (fun k (hk : k < m) => byte_reads hl.needle hy k hk)
  have hE1 := fun W (hb : Below w.heap.size w W) => Edge_any A n c xs lo W (hl.env.below hb) (hl.text.below hb) hl.room (by omega)
  have hE2 := fun W (hb : Below w.heap.size w W) => Edge_any A n c xs ((lo : Int) + m) W (hl.env.below hb) (hl.text.below hb) hl.room (by omega)
  have HLk := Lib.hid (fun (a b : Int) (_ : 0 ≤ a ∧ a ≤ 255) (_ : 0 ≤ b ∧ b ≤ 255) W (_ : Below w.heap.size w W) => (show Calls Tryd.prog 72 #[.int .u8 a, .int .u8 b] W fun e w' => e = .returned (.bool (a == b)) ∧ Below W.heap.size W w' from (like1_any a b W).mono fun e w' h => ⟨h.1, h.2 ▸ Below.refl _ _⟩))
  have g1 : IntKind.i64.wrap ((lo : Int) + m) = (lo : Int) + m := IntWalk.i64_in _ (by omega)
  have g2 : ¬ (n : Int) < (lo : Int) + m := by omega
  clear hl hS hx hy hcast hxl hnl
  generalize edgeAt xs (lo : Int) = b1 at *
  generalize edgeAt xs ((lo : Int) + m) = b2 at *
  have HE1 := Lib.hid hE1
  have HE2 := Lib.hid hE2
  have HR := Lib.hid hR
  clear hE1 hE2 hR
  go_enter Tryd.func39, Tryd.ntmps39
  go_wp2
  go_loopw [27] (fun v wr => ∃ k : Nat, k ≤ m ∧ v = .int .i64 k ∧ needUpto false xs ns lo k = true ∧ Below w.heap.size w wr) (fun v _ => m - (intOf v).toNat)
  case atStart => exact ⟨0, Nat.zero_le _, rfl, rfl, Below.refl _ _⟩
  case round =>
    obtain ⟨k, hk, rfl, hok, hbl⟩ := hrel
    obtain ⟨d0, d1, d2⟩ := KC.out wr hbl
    by_cases hlt : k < m
    · have hlt' : (k : Int) < m := by omega
      obtain ⟨ad, rfl, hcx, hx0, hx1⟩ := HX.out k (by omega)
      obtain ⟨ad', rfl, hcy, hy0, hy1⟩ := HY.out k hlt
      have hs := needUpto_succ false xs ns lo k
      have hstop := fun h => needUpto_stop (fold := false) (xs := xs) (ns := ns) (lo := lo) hlt h
      unfold alikeI at hs hstop
      rw [hok, Bool.true_and] at hs
      simp only [List.getD_eq_getElem?_getD, Bool.false_eq_true, if_false] at hcx hcy hs hstop hx0 hx1 hy0 hy1
      generalize xs[lo + k]?.getD 0 = X at *
      generalize ns[k]?.getD 0 = Y at *
      have hcx' := pw_cell_below hbl hcx
      have hcy' := pw_cell_below hbl hcy
      have KX := Lib.hid (fun W (h : Below w.heap.size w W) => (show W.cell? ⟨l, 0, none⟩ = some (.slice (some ad) n c) ∧ W.cell? ⟨l, 2, none⟩ = some (.func (.func 72) #[] #[]) ∧ W.cell? (ad.add (lo + k)) = some (.int .u8 X) ∧ Below w.heap.size w W from ⟨(KC.out W h).1, (KC.out W h).2.2, pw_cell_below h hcx, h⟩))
      have g3 : IntKind.i64.wrap ((lo : Int) + k) = (lo : Int) + k := IntWalk.i64_in _ (by omega)
      have g4 : ((lo : Int) + k).toNat = lo + k := by omega
      have g5 : (0 : Int) ≤ (lo : Int) + k := by omega
      have g6 : (lo : Int) + k < n := by omega
      have hbw : Below w.heap.size w wr.drew := hbl.drew
      have hL := fun W (hb : Below w.heap.size w W) => HLk.out X Y ⟨hx0, hx1⟩ ⟨hy0, hy1⟩ W hb
      clear hcx hcy HLk HX HY
      cases hXY : (X == Y)
      · have HQ := Lib.hid (hstop hXY)
        rw [hXY] at hL
        have HL := Lib.hid hL
        clear hL hs hstop hok hXY
        go_wp2
        go_region_held3 (fun W => W.cell? ⟨l, 0, none⟩ = some (.slice (some ad) n c) ∧ W.cell? ⟨l, 2, none⟩ = some (.func (.func 72) #[] #[]) ∧ W.cell? (ad.add (lo + k)) = some (.int .u8 X) ∧ Below w.heap.size w W)
          (first | (with_reducible exact KX.out _ hbw1) | (with_reducible exact KX.out _ hbw))
          ((go_at_call 72; refine (HL.out _ (by (repeat (first | (with_reducible exact Below.refl _ _) | (with_reducible assumption) | (with_reducible apply bl_alloc) | (with_reducible apply bl_iter) | (with_reducible apply bl_drew) | (with_reducible apply bl_drewN) | (with_reducible refine bl_set ?_ (by first | assumption | (simp; done) | omega | (simp; omega)) _) | (with_reducible refine bl_then ?_ (by with_reducible assumption)))))).mono ?_; clear HL; rintro e w1 ⟨rfl, hb1⟩; have hbw1 : Below w.heap.size w w1 := by (repeat (first | (with_reducible exact Below.refl _ _) | (with_reducible assumption) | (with_reducible apply bl_alloc) | (with_reducible apply bl_iter) | (with_reducible apply bl_drew) | (with_reducible apply bl_drewN) | (with_reducible refine bl_set ?_ (by first | assumption | (simp; done) | omega | (simp; omega)) _) | (with_reducible refine bl_then ?_ (by with_reducible assumption))))))
        all_goals go_wp2
        all_goals go_ret
        all_goals exact ⟨by rw [HR.out, HQ.out]; rfl, by (repeat (first | (with_reducible exact Below.refl _ _) | (with_reducible assumption) | (with_reducible apply bl_alloc) | (with_reducible apply bl_iter) | (with_reducible apply bl_drew) | (with_reducible apply bl_drewN) | (with_reducible refine bl_set ?_ (by first | assumption | (simp; done) | omega | (simp; omega)) _) | (with_reducible refine bl_then ?_ (by with_reducible assumption))))⟩
      · have HQ := Lib.hid (hs.trans hXY)
        rw [hXY] at hL
        have HL := Lib.hid hL
        clear hL hs hstop hok hXY
        go_wp2
        go_region_held3 (fun W => W.cell? ⟨l, 0, none⟩ = some (.slice (some ad) n c) ∧ W.cell? ⟨l, 2, none⟩ = some (.func (.func 72) #[] #[]) ∧ W.cell? (ad.add (lo + k)) = some (.int .u8 X) ∧ Below w.heap.size w W)
          (first | (with_reducible exact KX.out _ hbw1) | (with_reducible exact KX.out _ hbw))
          ((go_at_call 72; refine (HL.out _ (by (repeat (first | (with_reducible exact Below.refl _ _) | (with_reducible assumption) | (with_reducible apply bl_alloc) | (with_reducible apply bl_iter) | (with_reducible apply bl_drew) | (with_reducible apply bl_drewN) | (with_reducible refine bl_set ?_ (by first | assumption | (simp; done) | omega | (simp; omega)) _) | (with_reducible refine bl_then ?_ (by with_reducible assumption)))))).mono ?_; clear HL; rintro e w1 ⟨rfl, hb1⟩; have hbw1 : Below w.heap.size w w1 := by (repeat (first | (with_reducible exact Below.refl _ _) | (with_reducible assumption) | (with_reducible apply bl_alloc) | (with_reducible apply bl_iter) | (with_reducible apply bl_drew) | (with_reducible apply bl_drewN) | (with_reducible refine bl_set ?_ (by first | assumption | (simp; done) | omega | (simp; omega)) _) | (with_reducible refine bl_then ?_ (by with_reducible assumption))))))
        all_goals go_wp2
        all_goals go_roundw
        case rel => exact ⟨k + 1, by omega, by go_num, HQ.out, by (repeat (first | (with_reducible exact Below.refl _ _) | (with_reducible assumption) | (with_reducible apply bl_alloc) | (with_reducible apply bl_iter) | (with_reducible apply bl_drew) | (with_reducible apply bl_drewN) | (with_reducible refine bl_set ?_ (by first | assumption | (simp; done) | omega | (simp; omega)) _) | (with_reducible refine bl_then ?_ (by with_reducible assumption))))⟩
        case measure => simp [intOf]; omega
    · have hge : (m : Int) ≤ k := by omega
      obtain rfl : k = m := by omega
      have HQ := Lib.hid hok
      clear hlt hok HX HY HLk
      cases b1
      · go_wp2_with (go_at_call 20; refine (HE1.out _ (by (repeat (first | (with_reducible exact Below.refl _ _) | (with_reducible assumption) | (with_reducible apply bl_alloc) | (with_reducible apply bl_iter) | (with_reducible apply bl_drew) | (with_reducible apply bl_drewN) | (with_reducible refine bl_set ?_ (by first | assumption | (simp; done) | omega | (simp; omega)) _) | (with_reducible refine bl_then ?_ (by with_reducible assumption)))))).mono ?_; clear HE1; rintro e w1 ⟨rfl, hb1⟩; obtain ⟨e0, e1, e2⟩ := KC.out w1 (by (repeat (first | (with_reducible exact Below.refl _ _) | (with_reducible assumption) | (with_reducible apply bl_alloc) | (with_reducible apply bl_iter) | (with_reducible apply bl_drew) | (with_reducible apply bl_drewN) | (with_reducible refine bl_set ?_ (by first | assumption | (simp; done) | omega | (simp; omega)) _) | (with_reducible refine bl_then ?_ (by with_reducible assumption))))))
        go_ret
        exact ⟨by rw [HR.out, HQ.out]; rfl, by (repeat (first | (with_reducible exact Below.refl _ _) | (with_reducible assumption) | (with_reducible apply bl_alloc) | (with_reducible apply bl_iter) | (with_reducible apply bl_drew) | (with_reducible apply bl_drewN) | (with_reducible refine bl_set ?_ (by first | assumption | (simp; done) | omega | (simp; omega)) _) | (with_reducible refine bl_then ?_ (by with_reducible assumption))))⟩
      · go_wp2_with (first
          | (go_at_call 20; refine (HE1.out _ (by (repeat (first | (with_reducible exact Below.refl _ _) | (with_reducible assumption) | (with_reducible apply bl_alloc) | (with_reducible apply bl_iter) | (with_reducible apply bl_drew) | (with_reducible apply bl_drewN) | (with_reducible refine bl_set ?_ (by first | assumption | (simp; done) | omega | (simp; omega)) _) | (with_reducible refine bl_then ?_ (by with_reducible assumption)))))).mono ?_; clear HE1; rintro e w1 ⟨rfl, hb1⟩; obtain ⟨e0, e1, e2⟩ := KC.out w1 (by (repeat (first | (with_reducible exact Below.refl _ _) | (with_reducible assumption) | (with_reducible apply bl_alloc) | (with_reducible apply bl_iter) | (with_reducible apply bl_drew) | (with_reducible apply bl_drewN) | (with_reducible refine bl_set ?_ (by first | assumption | (simp; done) | omega | (simp; omega)) _) | (with_reducible refine bl_then ?_ (by with_reducible assumption))))))
          | (go_at_call 20; refine (HE2.out _ (by (repeat (first | (with_reducible exact Below.refl _ _) | (with_reducible assumption) | (with_reducible apply bl_alloc) | (with_reducible apply bl_iter) | (with_reducible apply bl_drew) | (with_reducible apply bl_drewN) | (with_reducible refine bl_set ?_ (by first | assumption | (simp; done) | omega | (simp; omega)) _) | (with_reducible refine bl_then ?_ (by with_reducible assumption)))))).mono ?_; clear HE2; rintro e w2 ⟨rfl, hb2⟩))
        go_ret
        exact ⟨by rw [HR.out, HQ.out]; rfl, by (repeat (first | (with_reducible exact Below.refl _ _) | (with_reducible assumption) | (with_reducible apply bl_alloc) | (with_reducible apply bl_iter) | (with_reducible apply bl_drew) | (with_reducible apply bl_drewN) | (with_reducible refine bl_set ?_ (by first | assumption | (simp; done) | omega | (simp; omega)) _) | (with_reducible refine bl_then ?_ (by with_reducible assumption))))⟩

set_option maxRecDepth 100000 in
set_option maxHeartbeats 4000000 in
theorem stands_true {l n c m d : Nat} {A B : Option Addr} {xs ns : List Int} {F : Value} (hx : ∀ i, 0 ≤ xs.getD i 0 ∧ xs.getD i 0 ≤ 255) (hy : ∀ i, 0 ≤ ns.getD i 0 ∧ ns.getD i 0 ≤ 255) (lo : Nat) (hlo : lo + m ≤ n) (w : World) (hl : Look w l A n c xs B m d ns F true) :
    Calls Tryd.prog 39 #[.pointer (some ⟨l, 0, none⟩), .int .i64 lo] w fun e w' => e = .returned (.bool (standsI true xs ns lo)) ∧ Below w.heap.size w w' := by
  obtain ⟨h, -⟩ | ⟨-, q, rfl, hq⟩ := hl.like
  case inl => cases h
  have hxl : xs.length = n := hl.text.1
  have hnl : ns.length = m := hl.needle.1
  have hcast : ((lo + m : Nat) : Int) = (lo : Int) + m := by omega
  have hS : standsI true xs ns lo = (needUpto true xs ns lo m && (edgeAt xs lo && edgeAt xs ((lo : Int) + m))) := by
    unfold standsI
    rw [hxl, hnl, decide_eq_true hlo, Bool.true_and, hcast]
  obtain ⟨R, hR⟩ : ∃ R, R = standsI true xs ns lo := ⟨_, rfl⟩
  rw [← hR]
  rw [hS] at hR
  have c0 : w.cell? ⟨l, 0, none⟩ = some (.slice A n c) := hl.blk.cell 0
  have c1 : w.cell? ⟨l, 1, none⟩ = some (.slice B m d) := hl.blk.cell 1
  have c2 : w.cell? ⟨l, 2, none⟩ = some (.func (.func 74) #[] #[.pointer (some ⟨q, 0, none⟩)]) := hl.blk.cell 2
  have h2 := hl.size'
  have h3 := hl.size
  have KC := Lib.hid (fun W (h : Below w.heap.size w W) => (show W.cell? ⟨l, 0, none⟩ = some (.slice A n c) ∧ W.cell? ⟨l, 1, none⟩ = some (.slice B m d) ∧ W.cell? ⟨l, 2, none⟩ = some (.func (.func 74) #[] #[.pointer (some ⟨q, 0, none⟩)]) from ⟨(hl.blk.below h).cell 0, (hl.blk.below h).cell 1, (hl.blk.below h).cell 2⟩))
  have HX := Lib.hid (fun k (hk : lo + k < n) => byte_reads hl.text hx (lo + k) hk)
  have HY := Lib.hid (fun k (hk : k < m) => byte_reads hl.needle hy k hk)
  have hE1 := fun W (hb : Below w.heap.size w W) => Edge_any A n c xs lo W (hl.env.below hb) (hl.text.below hb) hl.room (by omega)
  have hE2 := fun W (hb : Below w.heap.size w W) => Edge_any A n c xs ((lo : Int) + m) W (hl.env.below hb) (hl.text.below hb) hl.room (by omega)
  have HLk := Lib.hid (fun (a b : Int) (ha : 0 ≤ a ∧ a ≤ 255) (hb : 0 ≤ b ∧ b ≤ 255) W (h : Below w.heap.size w W) => like3_any a b ha hb q W (hq.below h))
  clear hq
  have g1 : IntKind.i64.wrap ((lo : Int) + m) = (lo : Int) + m := IntWalk.i64_in _ (by omega)
  have g2 : ¬ (n : Int) < (lo : Int) + m := by omega
  clear hl hS hx hy hcast hxl hnl
  generalize edgeAt xs (lo : Int) = b1 at *
  generalize edgeAt xs ((lo : Int) + m) = b2 at *
  have HE1 := Lib.hid hE1
  have HE2 := Lib.hid hE2
  have HR := Lib.hid hR
  clear hE1 hE2 hR
  go_enter Tryd.func39, Tryd.ntmps39
  go_wp2
  go_loopw [27] (fun v wr => ∃ k : Nat, k ≤ m ∧ v = .int .i64 k ∧ needUpto true xs ns lo k = true ∧ Below w.heap.size w wr) (fun v _ => m - (intOf v).toNat)
  case atStart => exact ⟨0, Nat.zero_le _, rfl, rfl, Below.refl _ _⟩
  case round =>
    obtain ⟨k, hk, rfl, hok, hbl⟩ := hrel
    obtain ⟨d0, d1, d2⟩ := KC.out wr hbl
    by_cases hlt : k < m
    · have hlt' : (k : Int) < m := by omega
      obtain ⟨ad, rfl, hcx, hx0, hx1⟩ := HX.out k (by omega)
      obtain ⟨ad', rfl, hcy, hy0, hy1⟩ := HY.out k hlt
      have hs := needUpto_succ true xs ns lo k
      have hstop := fun h => needUpto_stop (fold := true) (xs := xs) (ns := ns) (lo := lo) hlt h
      unfold alikeI at hs hstop
      rw [hok, Bool.true_and] at hs
      simp only [List.getD_eq_getElem?_getD, if_true] at hcx hcy hs hstop hx0 hx1 hy0 hy1
      generalize xs[lo + k]?.getD 0 = X at *
      generalize ns[k]?.getD 0 = Y at *
      have hcx' := pw_cell_below hbl hcx
      have hcy' := pw_cell_below hbl hcy
      have KX := Lib.hid (fun W (h : Below w.heap.size w W) => (show W.cell? ⟨l, 0, none⟩ = some (.slice (some ad) n c) ∧ W.cell? ⟨l, 2, none⟩ = some (.func (.func 74) #[] #[.pointer (some ⟨q, 0, none⟩)]) ∧ W.cell? (ad.add (lo + k)) = some (.int .u8 X) ∧ Below w.heap.size w W from ⟨(KC.out W h).1, (KC.out W h).2.2, pw_cell_below h hcx, h⟩))
      have g3 : IntKind.i64.wrap ((lo : Int) + k) = (lo : Int) + k := IntWalk.i64_in _ (by omega)
      have g4 : ((lo : Int) + k).toNat = lo + k := by omega
      have g5 : (0 : Int) ≤ (lo : Int) + k := by omega
      have g6 : (lo : Int) + k < n := by omega
      have hbw : Below w.heap.size w wr.drew := hbl.drew
      have hL := fun W (hb : Below w.heap.size w W) => HLk.out X Y ⟨hx0, hx1⟩ ⟨hy0, hy1⟩ W hb
      clear hcx hcy HLk HX HY
      cases hXY : (lowI X == lowI Y)
      · have HQ := Lib.hid (hstop hXY)
        rw [hXY] at hL
        have HL := Lib.hid hL
        clear hL hs hstop hok hXY
        go_wp2
        go_region_held3 (fun W => W.cell? ⟨l, 0, none⟩ = some (.slice (some ad) n c) ∧ W.cell? ⟨l, 2, none⟩ = some (.func (.func 74) #[] #[.pointer (some ⟨q, 0, none⟩)]) ∧ W.cell? (ad.add (lo + k)) = some (.int .u8 X) ∧ Below w.heap.size w W)
          (first | (with_reducible exact KX.out _ hbw1) | (with_reducible exact KX.out _ hbw))
          ((go_at_call 74; refine (HL.out _ (by (repeat (first | (with_reducible exact Below.refl _ _) | (with_reducible assumption) | (with_reducible apply bl_alloc) | (with_reducible apply bl_iter) | (with_reducible apply bl_drew) | (with_reducible apply bl_drewN) | (with_reducible refine bl_set ?_ (by first | assumption | (simp; done) | omega | (simp; omega)) _) | (with_reducible refine bl_then ?_ (by with_reducible assumption)))))).mono ?_; clear HL; rintro e w1 ⟨rfl, hb1⟩; have hbw1 : Below w.heap.size w w1 := by (repeat (first | (with_reducible exact Below.refl _ _) | (with_reducible assumption) | (with_reducible apply bl_alloc) | (with_reducible apply bl_iter) | (with_reducible apply bl_drew) | (with_reducible apply bl_drewN) | (with_reducible refine bl_set ?_ (by first | assumption | (simp; done) | omega | (simp; omega)) _) | (with_reducible refine bl_then ?_ (by with_reducible assumption))))))
        all_goals go_wp2
        all_goals go_ret
        all_goals exact ⟨by rw [HR.out, HQ.out]; rfl, by (repeat (first | (with_reducible exact Below.refl _ _) | (with_reducible assumption) | (with_reducible apply bl_alloc) | (with_reducible apply bl_iter) | (with_reducible apply bl_drew) | (with_reducible apply bl_drewN) | (with_reducible refine bl_set ?_ (by first | assumption | (simp; done) | omega | (simp; omega)) _) | (with_reducible refine bl_then ?_ (by with_reducible assumption))))⟩
      · have HQ := Lib.hid (hs.trans hXY)
        rw [hXY] at hL
        have HL := Lib.hid hL
        clear hL hs hstop hok hXY
        go_wp2
        go_region_held3 (fun W => W.cell? ⟨l, 0, none⟩ = some (.slice (some ad) n c) ∧ W.cell? ⟨l, 2, none⟩ = some (.func (.func 74) #[] #[.pointer (some ⟨q, 0, none⟩)]) ∧ W.cell? (ad.add (lo + k)) = some (.int .u8 X) ∧ Below w.heap.size w W)
          (first | (with_reducible exact KX.out _ hbw1) | (with_reducible exact KX.out _ hbw))
          ((go_at_call 74; refine (HL.out _ (by (repeat (first | (with_reducible exact Below.refl _ _) | (with_reducible assumption) | (with_reducible apply bl_alloc) | (with_reducible apply bl_iter) | (with_reducible apply bl_drew) | (with_reducible apply bl_drewN) | (with_reducible refine bl_set ?_ (by first | assumption | (simp; done) | omega | (simp; omega)) _) | (with_reducible refine bl_then ?_ (by with_reducible assumption)))))).mono ?_; clear HL; rintro e w1 ⟨rfl, hb1⟩; have hbw1 : Below w.heap.size w w1 := by (repeat (first | (with_reducible exact Below.refl _ _) | (with_reducible assumption) | (with_reducible apply bl_alloc) | (with_reducible apply bl_iter) | (with_reducible apply bl_drew) | (with_reducible apply bl_drewN) | (with_reducible refine bl_set ?_ (by first | assumption | (simp; done) | omega | (simp; omega)) _) | (with_reducible refine bl_then ?_ (by with_reducible assumption))))))
        all_goals go_wp2
        all_goals go_roundw
        case rel => exact ⟨k + 1, by omega, by go_num, HQ.out, by (repeat (first | (with_reducible exact Below.refl _ _) | (with_reducible assumption) | (with_reducible apply bl_alloc) | (with_reducible apply bl_iter) | (with_reducible apply bl_drew) | (with_reducible apply bl_drewN) | (with_reducible refine bl_set ?_ (by first | assumption | (simp; done) | omega | (simp; omega)) _) | (with_reducible refine bl_then ?_ (by with_reducible assumption))))⟩
        case measure => simp [intOf]; omega
    · have hge : (m : Int) ≤ k := by omega
      obtain rfl : k = m := by omega
      have HQ := Lib.hid hok
      clear hlt hok HX HY HLk
      cases b1
      · go_wp2_with (go_at_call 20; refine (HE1.out _ (by (repeat (first | (with_reducible exact Below.refl _ _) | (with_reducible assumption) | (with_reducible apply bl_alloc) | (with_reducible apply bl_iter) | (with_reducible apply bl_drew) | (with_reducible apply bl_drewN) | (with_reducible refine bl_set ?_ (by first | assumption | (simp; done) | omega | (simp; omega)) _) | (with_reducible refine bl_then ?_ (by with_reducible assumption)))))).mono ?_; clear HE1; rintro e w1 ⟨rfl, hb1⟩; obtain ⟨e0, e1, e2⟩ := KC.out w1 (by (repeat (first | (with_reducible exact Below.refl _ _) | (with_reducible assumption) | (with_reducible apply bl_alloc) | (with_reducible apply bl_iter) | (with_reducible apply bl_drew) | (with_reducible apply bl_drewN) | (with_reducible refine bl_set ?_ (by first | assumption | (simp; done) | omega | (simp; omega)) _) | (with_reducible refine bl_then ?_ (by with_reducible assumption))))))
        go_ret
        exact ⟨by rw [HR.out, HQ.out]; rfl, by (repeat (first | (with_reducible exact Below.refl _ _) | (with_reducible assumption) | (with_reducible apply bl_alloc) | (with_reducible apply bl_iter) | (with_reducible apply bl_drew) | (with_reducible apply bl_drewN) | (with_reducible refine bl_set ?_ (by first | assumption | (simp; done) | omega | (simp; omega)) _) | (with_reducible refine bl_then ?_ (by with_reducible assumption))))⟩
      · go_wp2_with (first
          | (go_at_call 20; refine (HE1.out _ (by (repeat (first | (with_reducible exact Below.refl _ _) | (with_reducible assumption) | (with_reducible apply bl_alloc) | (with_reducible apply bl_iter) | (with_reducible apply bl_drew) | (with_reducible apply bl_drewN) | (with_reducible refine bl_set ?_ (by first | assumption | (simp; done) | omega | (simp; omega)) _) | (with_reducible refine bl_then ?_ (by with_reducible assumption)))))).mono ?_; clear HE1; rintro e w1 ⟨rfl, hb1⟩; obtain ⟨e0, e1, e2⟩ := KC.out w1 (by (repeat (first | (with_reducible exact Below.refl _ _) | (with_reducible assumption) | (with_reducible apply bl_alloc) | (with_reducible apply bl_iter) | (with_reducible apply bl_drew) | (with_reducible apply bl_drewN) | (with_reducible refine bl_set ?_ (by first | assumption | (simp; done) | omega | (simp; omega)) _) | (with_reducible refine bl_then ?_ (by with_reducible assumption))))))
          | (go_at_call 20; refine (HE2.out _ (by (repeat (first | (with_reducible exact Below.refl _ _) | (with_reducible assumption) | (with_reducible apply bl_alloc) | (with_reducible apply bl_iter) | (with_reducible apply bl_drew) | (with_reducible apply bl_drewN) | (with_reducible refine bl_set ?_ (by first | assumption | (simp; done) | omega | (simp; omega)) _) | (with_reducible refine bl_then ?_ (by with_reducible assumption)))))).mono ?_; clear HE2; rintro e w2 ⟨rfl, hb2⟩))
        go_ret
        exact ⟨by rw [HR.out, HQ.out]; rfl, by (repeat (first | (with_reducible exact Below.refl _ _) | (with_reducible assumption) | (with_reducible apply bl_alloc) | (with_reducible apply bl_iter) | (with_reducible apply bl_drew) | (with_reducible apply bl_drewN) | (with_reducible refine bl_set ?_ (by first | assumption | (simp; done) | omega | (simp; omega)) _) | (with_reducible refine bl_then ?_ (by with_reducible assumption))))⟩
end Go.Proofs.YtcjplgcnjfinoaaDoor
