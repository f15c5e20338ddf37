/- Contracts of (*find.look).all, find.All and find.Count, exact. Contracts of find.Next and find.Prev, exact. Contract of find.Prev within the range, exact; find.Replace where it refuses. -/
import Derived.Test.YtcjplgcnjfinoaaDoorFindC
namespace Go.Proofs.YtcjplgcnjfinoaaDoor
open Go.RowKit Go.Shelf Go.Proofs.YtcjplgcnjfinoaaDoorW.PrintWords Go.Proofs.YtcjplgcnjfinoaaDoorW.PrintMore
attribute [local go_sem] max2_int min2_int max_two min_two

/-- The hits from p on; k bounds how many are looked for. -/
def allI (fold : Bool) (xs ns : List Int) : Nat → Nat → List (Int × Int)
  | 0, _ => []
  | k + 1, p => if nextI fold xs ns p < 0 then [] else (nextI fold xs ns p, nextI fold xs ns p + ns.length) :: allI fold xs ns k ((nextI fold xs ns p).toNat + ns.length)
def hitsI (fold : Bool) (xs ns : List Int) : List (Int × Int) := allI fold xs ns (xs.length + 1) 0
def hitCells (hs : List (Int × Int)) : List Value := hs.flatMap fun h => [.int .i64 h.1, .int .i64 h.2]
theorem hitCells_snoc (hs : List (Int × Int)) (h : Int × Int) : hitCells (hs ++ [h]) = hitCells hs ++ [.int .i64 h.1, .int .i64 h.2] := by simp [hitCells]
theorem allI_end {fold : Bool} {xs ns : List Int} {k p : Nat} (h : nextI fold xs ns p < 0) : allI fold xs ns k p = [] := by
  cases k with
  | zero => rfl
  | succ k => unfold allI; rw [if_pos h]
theorem allI_step {fold : Bool} {xs ns : List Int} {k p j : Nat} (h : nextI fold xs ns p = j) : allI fold xs ns (k + 1) p = ((j : Int), (j : Int) + ns.length) :: allI fold xs ns k (j + ns.length) := by
  rw [allI, if_neg (by omega), h, Int.toNat_natCast]
theorem infoHit : (Tryd.prog.info? 35).map (fun i => (i.zero, i.size, i.bytes)) = some (some (.agg #[.int .i64 0, .int .i64 0]), 2, 16) := by kernel_rfl

/-- What the loop of all keeps. -/
def AllI (w : World) (fold : Bool) (xs ns : List Int) (v u : Value) (W : World) : Prop :=
  ∃ (hs : List (Int × Int)) (k p : Nat), u = .int .i64 (nextI fold xs ns p) ∧ p ≤ xs.length ∧ xs.length + 1 ≤ k + p ∧ hs.length ≤ p ∧ hitsI fold xs ns = hs ++ allI fold xs ns k p ∧ W.ownsRow w.heap.size 35 2 v hs.length (hitCells hs) ∧ Below w.heap.size w W
set_option maxRecDepth 100000 in
set_option maxHeartbeats 4000000 in
theorem all_any {l n c m d : Nat} {A B : Option Addr} {xs ns : List Int} {F : Value} {fold : Bool} (hm : 1 ≤ m) (hx : ∀ i, 0 ≤ xs.getD i 0 ∧ xs.getD i 0 ≤ 255) (hy : ∀ i, 0 ≤ ns.getD i 0 ∧ ns.getD i 0 ≤ 255) (w : World) (hl : Look w l A n c xs B m d ns F fold) :
    Calls Tryd.prog 35 #[.pointer (some ⟨l, 0, none⟩)] w fun e w' => (∃ v, e = .returned v ∧ w'.ownsRow w.heap.size 35 2 v (hitsI fold xs ns).length (hitCells (hitsI fold xs ns))) ∧ Below w.heap.size w w' := by
  have hxl : xs.length = n := hl.text.1
  have hnl : ns.length = m := hl.needle.1
  have h2 := hl.size'
  have h3 := hl.size
  have HS := Lib.hid (fun W k (h : Below w.heap.size w W) (hk : k ≤ n) => next_any hx hy k hk W (hl.below h))
  have KC := Lib.hid (fun W (h : Below w.heap.size w W) => (show W.cell? ⟨l, 1, none⟩ = some (.slice B m d) from (hl.blk.below h).cell 1))
  have c1 : w.cell? ⟨l, 1, none⟩ = some (.slice B m d) := hl.blk.cell 1
  have HR := Lib.hid (rfl : hitsI fold xs ns = hitsI fold xs ns)
  clear hl hx hy
  go_enter Tryd.func35, Tryd.ntmps35
  go_wp2_with (go_at_call 36; refine (HS.out _ 0 (by (repeat (first | (with_reducible exact Below.refl _ _) | (with_reducible assumption) | (with_reducible apply bl_alloc) | (with_reducible apply bl_iter) | (with_reducible apply bl_drew) | (with_reducible apply bl_drewN) | (with_reducible refine bl_set ?_ (by first | assumption | (simp; done) | omega | (simp; omega)) _) | (with_reducible refine bl_then ?_ (by with_reducible assumption))))) (by omega)).mono ?_; rintro e w1 ⟨rfl, hb1⟩)
  go_loopw [3, 4] (fun v u wr => AllI w fold xs ns v u wr) (fun _ u _ => if intOf u < 0 then 0 else n + 1 - (intOf u).toNat)
  case atStart => exact ⟨[], xs.length + 1, 0, rfl, by omega, by omega, Nat.le_refl _, rfl, own_nil _ _ _ _, by (repeat (first | (with_reducible exact Below.refl _ _) | (with_reducible assumption) | (with_reducible apply bl_alloc) | (with_reducible apply bl_iter) | (with_reducible apply bl_drew) | (with_reducible apply bl_drewN) | (with_reducible refine bl_set ?_ (by first | assumption | (simp; done) | omega | (simp; omega)) _) | (with_reducible refine bl_then ?_ (by with_reducible assumption))))⟩
  case round =>
    obtain ⟨hs, k, p, rfl, hp, hkp, hlen, heq, hown, hbl⟩ := hrel
    have d1 := KC.out wr hbl
    rcases nextI_cases fold xs ns p with ⟨h1, -⟩ | ⟨j, h1, h4, h5, -⟩
    · have HQ := Lib.hid (show hitsI fold xs ns = hs from by rw [heq, allI_end (by omega), List.append_nil])
      rw [h1]
      have HO := Lib.hid hown
      clear heq hown h1
      go_wp2
      go_ret
      exact ⟨⟨_, rfl, by rw [HQ.out]; exact HO.out⟩, by (repeat (first | (with_reducible exact Below.refl _ _) | (with_reducible assumption) | (with_reducible apply bl_alloc) | (with_reducible apply bl_iter) | (with_reducible apply bl_drew) | (with_reducible apply bl_drewN) | (with_reducible refine bl_set ?_ (by first | assumption | (simp; done) | omega | (simp; omega)) _) | (with_reducible refine bl_then ?_ (by with_reducible assumption))))⟩
    · have hj := stands_le h5
      obtain ⟨k', rfl⟩ : ∃ k', k = k' + 1 := ⟨k - 1, by omega⟩
      have HQ := Lib.hid (show hitsI fold xs ns = (hs ++ [((j : Int), (j : Int) + m)]) ++ allI fold xs ns k' (j + m) from by rw [heq, allI_step h1, hnl, List.append_assoc]; rfl)
      have HN := Lib.hid (nextI_cases fold xs ns (j + m))
      have HC := Lib.hid (hitCells_snoc hs ((j : Int), (j : Int) + m))
      have g1 : IntKind.i64.wrap ((j : Int) + m) = (j : Int) + m := IntWalk.i64_in _ (by omega)
      have g2 : (0 : Int) ≤ (j : Int) := by omega
      have hS := fun W (hb : Below w.heap.size w W) => HS.out W (j + m) hb (by omega)
      have e1 : ((j + m : Nat) : Int) = (j : Int) + m := by omega
      simp only [e1] at hS
      rw [h1]
      have HO := Lib.hid hown
      have HS2 := Lib.hid hS
      clear heq hown h1 h5 hS e1
      generalize hnx : nextI fold xs ns (j + m) = nx at *
      have HNX := Lib.hid hnx
      clear hnx
      go_wp2_with (first
        | (at_builtin; refine print_append_cells (w0 := w) w.heap.size rfl (.tmp 18) (.tmp 28) 29 35 (.agg #[.int .i64 0, .int .i64 0]) 2 16 rfl Tryd.underlying29 infoHit rfl (by decide) (by decide) u3 hs.length (hitCells hs) [.int .i64 j, .int .i64 ((j : Int) + m)] rfl rfl rfl (by intro u hu; rcases List.mem_cons.1 hu with rfl | hu; exact rfl; rcases List.mem_cons.1 hu with rfl | hu; exact rfl; cases hu) HO.out hbl hbl.size (by omega) ?_; intro v1 w2 hown2 hb2 hg2 hat2; have d2 := KC.out w2 hb2)
        | (go_at_call 36; refine (HS2.out _ (by (repeat (first | (with_reducible exact Below.refl _ _) | (with_reducible assumption) | (with_reducible apply bl_alloc) | (with_reducible apply bl_iter) | (with_reducible apply bl_drew) | (with_reducible apply bl_drewN) | (with_reducible refine bl_set ?_ (by first | assumption | (simp; done) | omega | (simp; omega)) _) | (with_reducible refine bl_then ?_ (by with_reducible assumption)))))).mono ?_; clear HS2; rintro e w3 ⟨rfl, hb3⟩))
      go_roundw
      case rel =>
        refine ⟨hs ++ [((j : Int), (j : Int) + m)], k', j + m, by rw [HNX.out], by omega, by omega, by rw [List.length_append]; show hs.length + 1 ≤ _; omega, HQ.out, ?_, by (repeat (first | (with_reducible exact Below.refl _ _) | (with_reducible assumption) | (with_reducible apply bl_alloc) | (with_reducible apply bl_iter) | (with_reducible apply bl_drew) | (with_reducible apply bl_drewN) | (with_reducible refine bl_set ?_ (by first | assumption | (simp; done) | omega | (simp; omega)) _) | (with_reducible refine bl_then ?_ (by with_reducible assumption))))⟩
        rw [HC.out, List.length_append]
        exact pw_own_below hown2 hb3
      case measure =>
        have hjj : ¬ (j : Int) < 0 := by omega
        rcases HN.out with ⟨rfl, -⟩ | ⟨k2, rfl, h6, -, -⟩
        · show (if (-1 : Int) < 0 then 0 else n + 1 - ((-1 : Int)).toNat) < (if (j : Int) < 0 then 0 else n + 1 - (j : Int).toNat)
          rw [if_pos (by decide), if_neg hjj, Int.toNat_natCast]
          omega
        · have hkk : ¬ (k2 : Int) < 0 := by omega
          show (if (k2 : Int) < 0 then 0 else n + 1 - (k2 : Int).toNat) < (if (j : Int) < 0 then 0 else n + 1 - (j : Int).toNat)
          rw [if_neg hkk, if_neg hjj, Int.toNat_natCast, Int.toNat_natCast]
          omega

set_option maxRecDepth 100000 in
theorem All_nil (v : Value) (fold : Bool) (w : World) :
    Calls Tryd.prog 15 #[.pointer none, v, .bool fold] w fun e w' => e = .returned (.tuple #[.slice none 0 0, .int .i64 1]) ∧ Below w.heap.size w w' := by
  go_enter Tryd.func15, Tryd.ntmps15
  go_wp2_with (go_at_call 34; refine (open_nil _ _ _).mono ?_; rintro e w1 ⟨rfl, hb1⟩)
  go_ret2
  exact ⟨rfl, by (repeat (first | (with_reducible exact Below.refl _ _) | (with_reducible assumption) | (with_reducible apply bl_alloc) | (with_reducible apply bl_iter) | (with_reducible apply bl_drew) | (with_reducible apply bl_drewN) | (with_reducible refine bl_set ?_ (by first | assumption | (simp; done) | omega | (simp; omega)) _) | (with_reducible refine bl_then ?_ (by with_reducible assumption))))⟩
set_option maxRecDepth 100000 in
theorem All_empty (r : Nat) (B : Option Addr) (d : Nat) (fold : Bool) (w : World) :
    Calls Tryd.prog 15 #[.pointer (some ⟨r, 0, none⟩), .slice B 0 d, .bool fold] w fun e w' => e = .returned (.tuple #[.slice none 0 0, .int .i64 200]) ∧ Below w.heap.size w w' := by
  go_enter Tryd.func15, Tryd.ntmps15
  go_wp2_with (go_at_call 34; refine (open_empty _ _ _ _ _).mono ?_; rintro e w1 ⟨rfl, hb1⟩)
  go_ret2
  exact ⟨rfl, by (repeat (first | (with_reducible exact Below.refl _ _) | (with_reducible assumption) | (with_reducible apply bl_alloc) | (with_reducible apply bl_iter) | (with_reducible apply bl_drew) | (with_reducible apply bl_drewN) | (with_reducible refine bl_set ?_ (by first | assumption | (simp; done) | omega | (simp; omega)) _) | (with_reducible refine bl_then ?_ (by with_reducible assumption))))⟩
set_option maxRecDepth 100000 in
set_option maxHeartbeats 2000000 in
theorem All_any (r : Nat) (s : ByteArray) (hs : s.size ≤ 268435456) (B : Option Addr) (m d : Nat) (ns : List Int) (hm : 1 ≤ m) (hm2 : m ≤ 268435456) (hd : m ≤ d) (hy : ∀ i, 0 ≤ ns.getD i 0 ∧ ns.getD i 0 ≤ 255) (fold : Bool) (w : World) (he : Env w) (h : RopeAt w r s) (hn : ReadsInt w .u8 B m ns) :
    Calls Tryd.prog 15 #[.pointer (some ⟨r, 0, none⟩), .slice B m d, .bool fold] w fun e w' => (∃ v, e = .returned (.tuple #[v, .int .i64 0]) ∧ w'.ownsRow w.heap.size 35 2 v (hitsI fold (bytesOf s) ns).length (hitCells (hitsI fold (bytesOf s) ns))) ∧ Below w.heap.size w w' := by
  have HO := Lib.hid (open_any r s hs B m d ns hm hm2 hd fold w he h hn)
  have HA := Lib.hid (fun l A c F W (hl : Look W l A s.size c (bytesOf s) B m d ns F fold) => all_any hm (bytes_range s) hy W hl)
  clear he h hn
  go_enter Tryd.func15, Tryd.ntmps15
  go_wp2_with (first
    | (go_at_call 34; refine HO.out.mono ?_; clear HO; rintro e w1 ⟨⟨l, A, c, F, rfl, hl⟩, hb1⟩; have HL := Lib.hid hl; clear hl)
    | (go_at_call 35; refine (HA.out _ _ _ _ _ HL.out).mono ?_; clear HA; rintro e w2 ⟨⟨v, rfl, hv⟩, hb2⟩; have HV := Lib.hid hv; clear hv))
  have hz := hb1.size
  go_ret2
  exact ⟨⟨_, rfl, own_weaken HV.out hz⟩, by (repeat (first | (with_reducible exact Below.refl _ _) | (with_reducible assumption) | (with_reducible apply bl_alloc) | (with_reducible apply bl_iter) | (with_reducible apply bl_drew) | (with_reducible apply bl_drewN) | (with_reducible refine bl_set ?_ (by first | assumption | (simp; done) | omega | (simp; omega)) _) | (with_reducible refine bl_then ?_ (by with_reducible assumption))))⟩
set_option maxRecDepth 100000 in
theorem Count_nil (v : Value) (fold : Bool) (w : World) :
    Calls Tryd.prog 19 #[.pointer none, v, .bool fold] w fun e w' => e = .returned (.tuple #[.int .i64 0, .int .i64 1]) ∧ Below w.heap.size w w' := by
  go_enter Tryd.func19, Tryd.ntmps19
  go_wp2_with (go_at_call 15; refine (All_nil _ _ _).mono ?_; rintro e w1 ⟨rfl, hb1⟩)
  go_ret2
  exact ⟨rfl, by (repeat (first | (with_reducible exact Below.refl _ _) | (with_reducible assumption) | (with_reducible apply bl_alloc) | (with_reducible apply bl_iter) | (with_reducible apply bl_drew) | (with_reducible apply bl_drewN) | (with_reducible refine bl_set ?_ (by first | assumption | (simp; done) | omega | (simp; omega)) _) | (with_reducible refine bl_then ?_ (by with_reducible assumption))))⟩
set_option maxRecDepth 100000 in
theorem Count_empty (r : Nat) (B : Option Addr) (d : Nat) (fold : Bool) (w : World) :
    Calls Tryd.prog 19 #[.pointer (some ⟨r, 0, none⟩), .slice B 0 d, .bool fold] w fun e w' => e = .returned (.tuple #[.int .i64 0, .int .i64 200]) ∧ Below w.heap.size w w' := by
  go_enter Tryd.func19, Tryd.ntmps19
  go_wp2_with (go_at_call 15; refine (All_empty _ _ _ _ _).mono ?_; rintro e w1 ⟨rfl, hb1⟩)
  go_ret2
  exact ⟨rfl, by (repeat (first | (with_reducible exact Below.refl _ _) | (with_reducible assumption) | (with_reducible apply bl_alloc) | (with_reducible apply bl_iter) | (with_reducible apply bl_drew) | (with_reducible apply bl_drewN) | (with_reducible refine bl_set ?_ (by first | assumption | (simp; done) | omega | (simp; omega)) _) | (with_reducible refine bl_then ?_ (by with_reducible assumption))))⟩
set_option maxRecDepth 100000 in
set_option maxHeartbeats 2000000 in
theorem Count_any (r : Nat) (s : ByteArray) (hs : s.size ≤ 268435456) (B : Option Addr) (m d : Nat) (ns : List Int) (hm : 1 ≤ m) (hm2 : m ≤ 268435456) (hd : m ≤ d) (hy : ∀ i, 0 ≤ ns.getD i 0 ∧ ns.getD i 0 ≤ 255) (fold : Bool) (w : World) (he : Env w) (h : RopeAt w r s) (hn : ReadsInt w .u8 B m ns) :
    Calls Tryd.prog 19 #[.pointer (some ⟨r, 0, none⟩), .slice B m d, .bool fold] w fun e w' => e = .returned (.tuple #[.int .i64 (hitsI fold (bytesOf s) ns).length, .int .i64 0]) ∧ Below w.heap.size w w' := by
  have HA := Lib.hid (All_any r s hs B m d ns hm hm2 hd hy fold w he h hn)
  clear he h hn hy
  go_enter Tryd.func19, Tryd.ntmps19
  go_wp2_with (go_at_call 15; refine HA.out.mono ?_; clear HA; rintro e w1 ⟨⟨v, rfl, hv⟩, hb1⟩; obtain ⟨A1, c1, rfl⟩ := own_slice hv; clear hv)
  go_ret2
  exact ⟨rfl, by (repeat (first | (with_reducible exact Below.refl _ _) | (with_reducible assumption) | (with_reducible apply bl_alloc) | (with_reducible apply bl_iter) | (with_reducible apply bl_drew) | (with_reducible apply bl_drewN) | (with_reducible refine bl_set ?_ (by first | assumption | (simp; done) | omega | (simp; omega)) _) | (with_reducible refine bl_then ?_ (by with_reducible assumption))))⟩
end Go.Proofs.YtcjplgcnjfinoaaDoor

namespace Go.Proofs.YtcjplgcnjfinoaaDoor
open Go.RowKit Go.Shelf Go.Proofs.YtcjplgcnjfinoaaDoorW.PrintWords Go.Proofs.YtcjplgcnjfinoaaDoorW.PrintMore
attribute [local go_sem] max2_int min2_int max_two min_two
attribute [local go_sem ↓] Go.wp_at_zero Go.wp_at_succ

set_option maxRecDepth 100000 in
theorem Next_nil (v : Value) (p : Int) (fold : Bool) (w : World) :
    Calls Tryd.prog 17 #[.pointer none, v, .int .i64 p, .bool fold] w fun e w' => e = .returned (.tuple #[.agg #[.int .i64 0, .int .i64 0], .bool false, .int .i64 1]) ∧ Below w.heap.size w w' := by
  go_enter Tryd.func17, Tryd.ntmps17
  go_wp2_with (go_at_call 34; refine (open_nil _ _ _).mono ?_; rintro e w1 ⟨rfl, hb1⟩; obtain ⟨hcl1, hfr1⟩ := bcell hb1; have y0 : w.heap.size < w1.heap.size := (by have hz := hb1.size; (try simp at hz); omega))
  exact bodyPost_ret (by simp [results, Tryd.results17, go_sem, *]) rfl ⟨rfl, by (repeat (first | (with_reducible exact Below.refl _ _) | (with_reducible assumption) | (with_reducible apply bl_alloc) | (with_reducible apply bl_iter) | (with_reducible apply bl_drew) | (with_reducible apply bl_drewN) | (with_reducible refine bl_set ?_ (by first | assumption | (simp; done) | omega | (simp; omega)) _) | (with_reducible refine bl_then ?_ (by with_reducible assumption))))⟩
set_option maxRecDepth 100000 in
theorem Next_empty (r : Nat) (B : Option Addr) (d : Nat) (p : Int) (fold : Bool) (w : World) :
    Calls Tryd.prog 17 #[.pointer (some ⟨r, 0, none⟩), .slice B 0 d, .int .i64 p, .bool fold] w fun e w' => e = .returned (.tuple #[.agg #[.int .i64 0, .int .i64 0], .bool false, .int .i64 200]) ∧ Below w.heap.size w w' := by
  go_enter Tryd.func17, Tryd.ntmps17
  go_wp2_with (go_at_call 34; refine (open_empty _ _ _ _ _).mono ?_; rintro e w1 ⟨rfl, hb1⟩; obtain ⟨hcl1, hfr1⟩ := bcell hb1; have y0 : w.heap.size < w1.heap.size := (by have hz := hb1.size; (try simp at hz); omega))
  exact bodyPost_ret (by simp [results, Tryd.results17, go_sem, *]) rfl ⟨rfl, by (repeat (first | (with_reducible exact Below.refl _ _) | (with_reducible assumption) | (with_reducible apply bl_alloc) | (with_reducible apply bl_iter) | (with_reducible apply bl_drew) | (with_reducible apply bl_drewN) | (with_reducible refine bl_set ?_ (by first | assumption | (simp; done) | omega | (simp; omega)) _) | (with_reducible refine bl_then ?_ (by with_reducible assumption))))⟩
set_option maxRecDepth 100000 in
set_option maxHeartbeats 2000000 in
theorem Next_range (r : Nat) (s : ByteArray) (hs : s.size ≤ 268435456) (B : Option Addr) (m d : Nat) (ns : List Int) (hm : 1 ≤ m) (hm2 : m ≤ 268435456) (hd : m ≤ d) (p : Int) (hp : p < 0 ∨ s.size < p) (fold : Bool) (w : World) (he : Env w) (h : RopeAt w r s) (hn : ReadsInt w .u8 B m ns) :
    Calls Tryd.prog 17 #[.pointer (some ⟨r, 0, none⟩), .slice B m d, .int .i64 p, .bool fold] w fun e w' => e = .returned (.tuple #[.agg #[.int .i64 0, .int .i64 0], .bool false, .int .i64 2]) ∧ Below w.heap.size w w' := by
  have hbA := bl_alloc (Below.refl w.heap.size w) (.cells #[.int .i64 0, .int .i64 0] 35)
  have HO := Lib.hid (open_any r s hs B m d ns hm hm2 hd fold _ (he.below hbA) (h.below hbA) (hn.below hbA))
  clear he h hn hbA
  by_cases h1 : p < 0
  · clear hp
    go_enter Tryd.func17, Tryd.ntmps17
    go_wp2_with (go_at_call 34; refine HO.out.mono ?_; clear HO; rintro e w1 ⟨⟨l, A, c, F, rfl, hl⟩, hb1⟩; obtain ⟨hcl1, hfr1⟩ := bcell hb1; have y0 : w.heap.size < w1.heap.size := (by have hz := hb1.size; (try simp at hz); omega); have b0 : w1.cell? ⟨l, 0, none⟩ = some (.slice A s.size c) := hl.blk.cell 0; clear hl)
    exact bodyPost_ret (by simp [results, Tryd.results17, go_sem, *]) rfl ⟨rfl, by (repeat (first | (with_reducible exact Below.refl _ _) | (with_reducible assumption) | (with_reducible apply bl_alloc) | (with_reducible apply bl_iter) | (with_reducible apply bl_drew) | (with_reducible apply bl_drewN) | (with_reducible refine bl_set ?_ (by first | assumption | (simp; done) | omega | (simp; omega)) _) | (with_reducible refine bl_then ?_ (by with_reducible assumption))))⟩
  · have h2 : (s.size : Int) < p := by omega
    clear hp
    go_enter Tryd.func17, Tryd.ntmps17
    go_wp2_with (go_at_call 34; refine HO.out.mono ?_; clear HO; rintro e w1 ⟨⟨l, A, c, F, rfl, hl⟩, hb1⟩; obtain ⟨hcl1, hfr1⟩ := bcell hb1; have y0 : w.heap.size < w1.heap.size := (by have hz := hb1.size; (try simp at hz); omega); have b0 : w1.cell? ⟨l, 0, none⟩ = some (.slice A s.size c) := hl.blk.cell 0; clear hl)
    exact bodyPost_ret (by simp [results, Tryd.results17, go_sem, *]) rfl ⟨rfl, by (repeat (first | (with_reducible exact Below.refl _ _) | (with_reducible assumption) | (with_reducible apply bl_alloc) | (with_reducible apply bl_iter) | (with_reducible apply bl_drew) | (with_reducible apply bl_drewN) | (with_reducible refine bl_set ?_ (by first | assumption | (simp; done) | omega | (simp; omega)) _) | (with_reducible refine bl_then ?_ (by with_reducible assumption))))⟩

set_option maxRecDepth 100000 in
theorem Prev_nil (v : Value) (p : Int) (fold : Bool) (w : World) :
    Calls Tryd.prog 21 #[.pointer none, v, .int .i64 p, .bool fold] w fun e w' => e = .returned (.tuple #[.agg #[.int .i64 0, .int .i64 0], .bool false, .int .i64 1]) ∧ Below w.heap.size w w' := by
  go_enter Tryd.func21, Tryd.ntmps21
  go_wp2_with (go_at_call 34; refine (open_nil _ _ _).mono ?_; rintro e w1 ⟨rfl, hb1⟩; obtain ⟨hcl1, hfr1⟩ := bcell hb1; have y0 : w.heap.size < w1.heap.size := (by have hz := hb1.size; (try simp at hz); omega))
  exact bodyPost_ret (by simp [results, Tryd.results21, go_sem, *]) rfl ⟨rfl, by (repeat (first | (with_reducible exact Below.refl _ _) | (with_reducible assumption) | (with_reducible apply bl_alloc) | (with_reducible apply bl_iter) | (with_reducible apply bl_drew) | (with_reducible apply bl_drewN) | (with_reducible refine bl_set ?_ (by first | assumption | (simp; done) | omega | (simp; omega)) _) | (with_reducible refine bl_then ?_ (by with_reducible assumption))))⟩
set_option maxRecDepth 100000 in
theorem Prev_empty (r : Nat) (B : Option Addr) (d : Nat) (p : Int) (fold : Bool) (w : World) :
    Calls Tryd.prog 21 #[.pointer (some ⟨r, 0, none⟩), .slice B 0 d, .int .i64 p, .bool fold] w fun e w' => e = .returned (.tuple #[.agg #[.int .i64 0, .int .i64 0], .bool false, .int .i64 200]) ∧ Below w.heap.size w w' := by
  go_enter Tryd.func21, Tryd.ntmps21
  go_wp2_with (go_at_call 34; refine (open_empty _ _ _ _ _).mono ?_; rintro e w1 ⟨rfl, hb1⟩; obtain ⟨hcl1, hfr1⟩ := bcell hb1; have y0 : w.heap.size < w1.heap.size := (by have hz := hb1.size; (try simp at hz); omega))
  exact bodyPost_ret (by simp [results, Tryd.results21, go_sem, *]) rfl ⟨rfl, by (repeat (first | (with_reducible exact Below.refl _ _) | (with_reducible assumption) | (with_reducible apply bl_alloc) | (with_reducible apply bl_iter) | (with_reducible apply bl_drew) | (with_reducible apply bl_drewN) | (with_reducible refine bl_set ?_ (by first | assumption | (simp; done) | omega | (simp; omega)) _) | (with_reducible refine bl_then ?_ (by with_reducible assumption))))⟩
set_option maxRecDepth 100000 in
set_option maxHeartbeats 2000000 in
theorem Prev_range (r : Nat) (s : ByteArray) (hs : s.size ≤ 268435456) (B : Option Addr) (m d : Nat) (ns : List Int) (hm : 1 ≤ m) (hm2 : m ≤ 268435456) (hd : m ≤ d) (p : Int) (hp : p < 0 ∨ s.size < p) (fold : Bool) (w : World) (he : Env w) (h : RopeAt w r s) (hn : ReadsInt w .u8 B m ns) :
    Calls Tryd.prog 21 #[.pointer (some ⟨r, 0, none⟩), .slice B m d, .int .i64 p, .bool fold] w fun e w' => e = .returned (.tuple #[.agg #[.int .i64 0, .int .i64 0], .bool false, .int .i64 2]) ∧ Below w.heap.size w w' := by
  have hbA := bl_alloc (Below.refl w.heap.size w) (.cells #[.int .i64 0, .int .i64 0] 35)
  have HO := Lib.hid (open_any r s hs B m d ns hm hm2 hd fold _ (he.below hbA) (h.below hbA) (hn.below hbA))
  clear he h hn hbA
  by_cases h1 : p < 0
  · clear hp
    go_enter Tryd.func21, Tryd.ntmps21
    go_wp2_with (go_at_call 34; refine HO.out.mono ?_; clear HO; rintro e w1 ⟨⟨l, A, c, F, rfl, hl⟩, hb1⟩; obtain ⟨hcl1, hfr1⟩ := bcell hb1; have y0 : w.heap.size < w1.heap.size := (by have hz := hb1.size; (try simp at hz); omega); have b0 : w1.cell? ⟨l, 0, none⟩ = some (.slice A s.size c) := hl.blk.cell 0; clear hl)
    exact bodyPost_ret (by simp [results, Tryd.results21, go_sem, *]) rfl ⟨rfl, by (repeat (first | (with_reducible exact Below.refl _ _) | (with_reducible assumption) | (with_reducible apply bl_alloc) | (with_reducible apply bl_iter) | (with_reducible apply bl_drew) | (with_reducible apply bl_drewN) | (with_reducible refine bl_set ?_ (by first | assumption | (simp; done) | omega | (simp; omega)) _) | (with_reducible refine bl_then ?_ (by with_reducible assumption))))⟩
  · have h2 : (s.size : Int) < p := by omega
    clear hp
    go_enter Tryd.func21, Tryd.ntmps21
    go_wp2_with (go_at_call 34; refine HO.out.mono ?_; clear HO; rintro e w1 ⟨⟨l, A, c, F, rfl, hl⟩, hb1⟩; obtain ⟨hcl1, hfr1⟩ := bcell hb1; have y0 : w.heap.size < w1.heap.size := (by have hz := hb1.size; (try simp at hz); omega); have b0 : w1.cell? ⟨l, 0, none⟩ = some (.slice A s.size c) := hl.blk.cell 0; clear hl)
    exact bodyPost_ret (by simp [results, Tryd.results21, go_sem, *]) rfl ⟨rfl, by (repeat (first | (with_reducible exact Below.refl _ _) | (with_reducible assumption) | (with_reducible apply bl_alloc) | (with_reducible apply bl_iter) | (with_reducible apply bl_drew) | (with_reducible apply bl_drewN) | (with_reducible refine bl_set ?_ (by first | assumption | (simp; done) | omega | (simp; omega)) _) | (with_reducible refine bl_then ?_ (by with_reducible assumption))))⟩

/-- What Next answers within the range. -/
def nextHit (fold : Bool) (xs ns : List Int) (p : Nat) : Value := if nextI fold xs ns p < 0 then .tuple #[.agg #[.int .i64 0, .int .i64 0], .bool false, .int .i64 0] else .tuple #[.agg #[.int .i64 (nextI fold xs ns p), .int .i64 (nextI fold xs ns p + ns.length)], .bool true, .int .i64 0]
set_option maxRecDepth 100000 in
set_option maxHeartbeats 2000000 in
theorem Next_any (r : Nat) (s : ByteArray) (hs : s.size ≤ 268435456) (B : Option Addr) (m d : Nat) (ns : List Int) (hm : 1 ≤ m) (hm2 : m ≤ 268435456) (hd : m ≤ d) (hy : ∀ i, 0 ≤ ns.getD i 0 ∧ ns.getD i 0 ≤ 255) (p : Nat) (hp : p ≤ s.size) (fold : Bool) (w : World) (he : Env w) (h : RopeAt w r s) (hn : ReadsInt w .u8 B m ns) :
    Calls Tryd.prog 17 #[.pointer (some ⟨r, 0, none⟩), .slice B m d, .int .i64 p, .bool fold] w fun e w' => e = .returned (nextHit fold (bytesOf s) ns p) ∧ Below w.heap.size w w' := by
  have hnl : ns.length = m := hn.1
  have hbA := bl_alloc (Below.refl w.heap.size w) (.cells #[.int .i64 0, .int .i64 0] 35)
  have HO := Lib.hid (open_any r s hs B m d ns hm hm2 hd fold _ (he.below hbA) (h.below hbA) (hn.below hbA))
  have HA := Lib.hid (fun l A c F W (hl : Look W l A s.size c (bytesOf s) B m d ns F fold) => next_any (bytes_range s) hy p hp W hl)
  have h1 : ¬ (p : Int) < 0 := by omega
  have h2 : ¬ (s.size : Int) < p := by omega
  have h3 : ¬ s.size < p := by omega
  have hsz : (bytesOf s).length = s.size := bytesOf_length s
  clear he h hn hbA
  unfold nextHit
  rw [hnl]
  rcases nextI_cases fold (bytesOf s) ns p with ⟨e1, -⟩ | ⟨k, e1, -, e2, -⟩
  · rw [e1] at HA ⊢
    rw [if_pos (by decide)]
    clear hy e1
    go_enter Tryd.func17, Tryd.ntmps17
    go_wp2_with (first
      | (go_at_call 34; refine HO.out.mono ?_; clear HO; rintro e w1 ⟨⟨l, A, c, F, rfl, hl⟩, hb1⟩; obtain ⟨hcl1, hfr1⟩ := bcell hb1; have y0 : w.heap.size < w1.heap.size := (by have hz := hb1.size; (try simp at hz); omega); have b0 : w1.cell? ⟨l, 0, none⟩ = some (.slice A s.size c) := hl.blk.cell 0; have HL := Lib.hid hl; clear hl)
      | (go_at_call 36; refine (HA.out _ _ _ _ _ HL.out).mono ?_; clear HA; rintro e w2 ⟨rfl, hb2⟩; obtain ⟨hcl2, hfr2⟩ := bcell hb2; have y1 : w.heap.size < w2.heap.size := (by have hz := hb2.size; (try simp at hz); omega)))
    exact bodyPost_ret (by simp [results, Tryd.results17, go_sem, *]) rfl ⟨rfl, by (repeat (first | (with_reducible exact Below.refl _ _) | (with_reducible assumption) | (with_reducible apply bl_alloc) | (with_reducible apply bl_iter) | (with_reducible apply bl_drew) | (with_reducible apply bl_drewN) | (with_reducible refine bl_set ?_ (by first | assumption | (simp; done) | omega | (simp; omega)) _) | (with_reducible refine bl_then ?_ (by with_reducible assumption))))⟩
  · have hk := stands_le e2
    have g0 : ¬ (k : Int) < 0 := by omega
    have g0' : (0 : Int) ≤ k := by omega
    have g1 : IntKind.i64.wrap ((k : Int) + m) = (k : Int) + m := IntWalk.i64_in _ (by omega)
    rw [e1] at HA ⊢
    rw [if_neg g0]
    clear hy e1 e2
    go_enter Tryd.func17, Tryd.ntmps17
    go_wp2_with (first
      | (go_at_call 34; refine HO.out.mono ?_; clear HO; rintro e w1 ⟨⟨l, A, c, F, rfl, hl⟩, hb1⟩; obtain ⟨hcl1, hfr1⟩ := bcell hb1; have y0 : w.heap.size < w1.heap.size := (by have hz := hb1.size; (try simp at hz); omega); have b0 : w1.cell? ⟨l, 0, none⟩ = some (.slice A s.size c) := hl.blk.cell 0; have HL := Lib.hid hl; clear hl)
      | (go_at_call 36; refine (HA.out _ _ _ _ _ HL.out).mono ?_; clear HA; rintro e w2 ⟨rfl, hb2⟩; obtain ⟨hcl2, hfr2⟩ := bcell hb2; have y1 : w.heap.size < w2.heap.size := (by have hz := hb2.size; (try simp at hz); omega)))
    exact bodyPost_ret (by simp [results, Tryd.results17, go_sem, *]) rfl ⟨rfl, by (repeat (first | (with_reducible exact Below.refl _ _) | (with_reducible assumption) | (with_reducible apply bl_alloc) | (with_reducible apply bl_iter) | (with_reducible apply bl_drew) | (with_reducible apply bl_drewN) | (with_reducible refine bl_set ?_ (by first | assumption | (simp; done) | omega | (simp; omega)) _) | (with_reducible refine bl_then ?_ (by with_reducible assumption))))⟩
end Go.Proofs.YtcjplgcnjfinoaaDoor

namespace Go.Proofs.YtcjplgcnjfinoaaDoor
open Go.RowKit Go.Shelf Go.Proofs.YtcjplgcnjfinoaaDoorW.PrintWords Go.Proofs.YtcjplgcnjfinoaaDoorW.PrintMore
attribute [local go_sem] max2_int min2_int max_two min_two

/-- The last place below k at which the needle stands; -1: none. -/
def prevI (fold : Bool) (xs ns : List Int) : Nat → Int
  | 0 => -1
  | k + 1 => if standsI fold xs ns k then k else prevI fold xs ns k
def prevHit (fold : Bool) (xs ns : List Int) (p : Nat) : Value := if prevI fold xs ns (p + 1 - ns.length) < 0 then .tuple #[.agg #[.int .i64 0, .int .i64 0], .bool false, .int .i64 0] else .tuple #[.agg #[.int .i64 (prevI fold xs ns (p + 1 - ns.length)), .int .i64 (prevI fold xs ns (p + 1 - ns.length) + ns.length)], .bool true, .int .i64 0]
set_option maxRecDepth 100000 in
set_option maxHeartbeats 4000000 in
theorem Prev_any (r : Nat) (s : ByteArray) (hs : s.size ≤ 268435456) (B : Option Addr) (m d : Nat) (ns : List Int) (hm : 1 ≤ m) (hm2 : m ≤ 268435456) (hd : m ≤ d) (hy : ∀ i, 0 ≤ ns.getD i 0 ∧ ns.getD i 0 ≤ 255) (p : Nat) (hp : p ≤ s.size) (fold : Bool) (w : World) (he : Env w) (h : RopeAt w r s) (hn : ReadsInt w .u8 B m ns) :
    Calls Tryd.prog 21 #[.pointer (some ⟨r, 0, none⟩), .slice B m d, .int .i64 p, .bool fold] w fun e w' => e = .returned (prevHit fold (bytesOf s) ns p) ∧ Below w.heap.size w w' := by
  have hnl : ns.length = m := hn.1
  have hbA := bl_alloc (Below.refl w.heap.size w) (.cells #[.int .i64 0, .int .i64 0] 35)
  have HO := Lib.hid (open_any r s hs B m d ns hm hm2 hd fold _ (he.below hbA) (h.below hbA) (hn.below hbA))
  have HA := Lib.hid (fun l A c F k W (hk : k ≤ 268435456) (hl : Look W l A s.size c (bytesOf s) B m d ns F fold) => stands_any (bytes_range s) hy k hk W hl)
  have h1 : ¬ (p : Int) < 0 := by omega
  have h2 : ¬ (s.size : Int) < p := by omega
  have h3 : ¬ s.size < p := by omega
  have g0 : IntKind.i64.wrap ((p : Int) - m) = (p : Int) - m := IntWalk.i64_in _ (by omega)
  obtain ⟨R, hR⟩ : ∃ R, R = prevHit fold (bytesOf s) ns p := ⟨_, rfl⟩
  rw [← hR]
  unfold prevHit at hR
  rw [hnl] at hR
  have HR := Lib.hid hR
  clear he h hn hbA hR hy
  go_enter Tryd.func21, Tryd.ntmps21
  go_wp2_with (go_at_call 34; refine HO.out.mono ?_; clear HO; rintro e w1 ⟨⟨l, A, c, F, rfl, hl⟩, hb1⟩; obtain ⟨hcl1, hfr1⟩ := bcell hb1; have y0 : w.heap.size < w1.heap.size := (by have hz := hb1.size; (try simp at hz); omega); have b0 : w1.cell? ⟨l, 0, none⟩ = some (.slice A s.size c) := hl.blk.cell 0; have HL := Lib.hid hl; clear hl)
  have E1 : Blk w1 w.heap.size #[.int .i64 0, .int .i64 0] 35 := (Blk.new w _ _).below hb1
  have hw1 : Below w.heap.size w w1 := by (repeat (first | (with_reducible exact Below.refl _ _) | (with_reducible assumption) | (with_reducible apply bl_alloc) | (with_reducible apply bl_iter) | (with_reducible apply bl_drew) | (with_reducible apply bl_drewN) | (with_reducible refine bl_set ?_ (by first | assumption | (simp; done) | omega | (simp; omega)) _) | (with_reducible refine bl_then ?_ (by with_reducible assumption))))
  have HK := Lib.hid (fun W (hb : Below w1.heap.size w1 W) => (show W.cell? ⟨w.heap.size, 0, none⟩ = some (.int .i64 0) ∧ W.cell? ⟨w.heap.size, 1, none⟩ = some (.int .i64 0) ∧ W.frozen? ⟨w.heap.size, 0, none⟩ = false ∧ W.frozen? ⟨w.heap.size, 1, none⟩ = false ∧ w.heap.size < W.heap.size from ⟨(E1.below hb).cell 0, (E1.below hb).cell 1, (E1.below hb).frozen 0, (E1.below hb).frozen 1, (E1.below hb).lt⟩))
  clear hcl1 hfr1 hb1 E1
  go_loopw [13] (fun v wr => ∃ (k : Nat) (u : Int), v = .int .i64 u ∧ k ≤ p + 1 - m ∧ (u = (k : Int) - 1 ∨ (u < 0 ∧ k = 0)) ∧ u ≤ 268435456 ∧ prevI fold (bytesOf s) ns (p + 1 - m) = prevI fold (bytesOf s) ns k ∧ Below w1.heap.size w1 wr) (fun v _ => if intOf v < 0 then 0 else (intOf v).toNat + 1)
  case atStart =>
    refine ⟨p + 1 - m, (p : Int) - m, rfl, Nat.le_refl _, ?_, by omega, rfl, Below.refl _ _⟩
    omega
  case round =>
    obtain ⟨k, u, rfl, hk, hu, hu2, heq, hbl⟩ := hrel
    obtain ⟨d0, d1, d2, d3, d4⟩ := HK.out wr hbl
    have hbw : Below w.heap.size w wr := hw1.trans (hbl.mono hw1.size)
    match k, hk, hu, heq with
    | 0, hk, hu, heq =>
      have g1 : ¬ (0 : Int) ≤ u := by omega
      have hm1 : prevI fold (bytesOf s) ns (p + 1 - m) = -1 := heq
      have HQ := Lib.hid (show R = .tuple #[.agg #[.int .i64 0, .int .i64 0], .bool false, .int .i64 0] from by rw [HR.out, hm1]; rfl)
      clear heq hm1 hu
      go_wp2
      exact bodyPost_ret (v := .tuple #[.agg #[.int .i64 0, .int .i64 0], .bool false, .int .i64 0]) (by simp [results, Tryd.results21, go_sem, *]) rfl ⟨by rw [HQ.out], by (repeat (first | (with_reducible exact Below.refl _ _) | (with_reducible assumption) | (with_reducible apply bl_alloc) | (with_reducible apply bl_iter) | (with_reducible apply bl_drew) | (with_reducible apply bl_drewN) | (with_reducible refine bl_set ?_ (by first | assumption | (simp; done) | omega | (simp; omega)) _) | (with_reducible refine bl_then ?_ (by with_reducible assumption))))⟩
    | k + 1, hk, hu, heq =>
      obtain rfl : u = (k : Int) := by omega
      have g1 : (0 : Int) ≤ (k : Int) := by omega
      have g3 : IntKind.i64.wrap ((k : Int) + m) = (k : Int) + m := IntWalk.i64_in _ (by omega)
      have g4 : IntKind.i64.wrap ((k : Int) - 1) = (k : Int) - 1 := IntWalk.i64_in _ (by omega)
      have hkp : prevI fold (bytesOf s) ns (k + 1) = if standsI fold (bytesOf s) ns k then (k : Int) else prevI fold (bytesOf s) ns k := rfl
      rw [hkp] at heq
      have HS := Lib.hid (HA.out l A c F k wr (by omega) (HL.out.below hbl))
      cases hst : standsI fold (bytesOf s) ns k
      · rw [hst] at HS heq
        have HQ := Lib.hid (show prevI fold (bytesOf s) ns (p + 1 - m) = prevI fold (bytesOf s) ns k from heq)
        clear hst heq hkp hu
        go_wp2_with (go_at_call 39; refine HS.out.mono ?_; clear HS; rintro e w2 ⟨rfl, hb2⟩)
        go_roundw
        case rel => exact ⟨k, (k : Int) - 1, by go_num, by omega, .inl rfl, by omega, HQ.out, hbl.trans (hb2.mono hbl.size)⟩
        case measure =>
          have hkk : ¬ (k : Int) < 0 := by omega
          show (if ((k : Int) - 1) < 0 then 0 else ((k : Int) - 1).toNat + 1) < (if (k : Int) < 0 then 0 else (k : Int).toNat + 1)
          rw [if_neg hkk]
          split <;> omega
      · rw [hst] at HS heq
        have heq : prevI fold (bytesOf s) ns (p + 1 - m) = (k : Int) := heq
        have HQ := Lib.hid (show R = .tuple #[.agg #[.int .i64 k, .int .i64 ((k : Int) + m)], .bool true, .int .i64 0] from by rw [HR.out, heq, if_neg (by omega)])
        clear hst heq hkp hu
        go_wp2_with (go_at_call 39; refine HS.out.mono ?_; clear HS; rintro e w2 ⟨rfl, hb2⟩; obtain ⟨q0, q1, q2, q3, q4⟩ := HK.out w2 (hbl.trans (hb2.mono hbl.size)))
        exact bodyPost_ret (v := .tuple #[.agg #[.int .i64 k, .int .i64 ((k : Int) + m)], .bool true, .int .i64 0]) (by simp [results, Tryd.results21, go_sem, *]) rfl ⟨by rw [HQ.out], by (repeat (first | (with_reducible exact Below.refl _ _) | (with_reducible assumption) | (with_reducible apply bl_alloc) | (with_reducible apply bl_iter) | (with_reducible apply bl_drew) | (with_reducible apply bl_drewN) | (with_reducible refine bl_set ?_ (by first | assumption | (simp; done) | omega | (simp; omega)) _) | (with_reducible refine bl_then ?_ (by with_reducible assumption))))⟩

set_option maxRecDepth 100000 in
theorem Replace_nil (v u : Value) (fold : Bool) (w : World) :
    Calls Tryd.prog 27 #[.pointer none, v, u, .bool fold] w fun e w' => e = .returned (.tuple #[.slice none 0 0, .int .i64 1]) ∧ Below w.heap.size w w' := by
  go_enter Tryd.func27, Tryd.ntmps27
  go_wp2_with (go_at_call 34; refine (open_nil _ _ _).mono ?_; rintro e w1 ⟨rfl, hb1⟩)
  go_ret2
  exact ⟨rfl, by (repeat (first | (with_reducible exact Below.refl _ _) | (with_reducible assumption) | (with_reducible apply bl_alloc) | (with_reducible apply bl_iter) | (with_reducible apply bl_drew) | (with_reducible apply bl_drewN) | (with_reducible refine bl_set ?_ (by first | assumption | (simp; done) | omega | (simp; omega)) _) | (with_reducible refine bl_then ?_ (by with_reducible assumption))))⟩
set_option maxRecDepth 100000 in
theorem Replace_empty (r : Nat) (B : Option Addr) (d : Nat) (u : Value) (fold : Bool) (w : World) :
    Calls Tryd.prog 27 #[.pointer (some ⟨r, 0, none⟩), .slice B 0 d, u, .bool fold] w fun e w' => e = .returned (.tuple #[.slice none 0 0, .int .i64 200]) ∧ Below w.heap.size w w' := by
  go_enter Tryd.func27, Tryd.ntmps27
  go_wp2_with (go_at_call 34; refine (open_empty _ _ _ _ _).mono ?_; rintro e w1 ⟨rfl, hb1⟩)
  go_ret2
  exact ⟨rfl, by (repeat (first | (with_reducible exact Below.refl _ _) | (with_reducible assumption) | (with_reducible apply bl_alloc) | (with_reducible apply bl_iter) | (with_reducible apply bl_drew) | (with_reducible apply bl_drewN) | (with_reducible refine bl_set ?_ (by first | assumption | (simp; done) | omega | (simp; omega)) _) | (with_reducible refine bl_then ?_ (by with_reducible assumption))))⟩
end Go.Proofs.YtcjplgcnjfinoaaDoor
