/- Contracts of the laws' helpers: own, Joined, and the rope of pieces. The fixed fact that each law of find asks first: it holds. -/
import Derived.Test.YtcjplgcnjfinoaaDoorFindD
import Derived.Test.YtcjplgcnjfinoaaDoorRopeJ
import Derived.Test.YtcjplgcnjfinoaaDoorWEqStruct
import Derived.Lib.SlBytesConst
namespace Go.Proofs.YtcjplgcnjfinoaaDoor
open Go.RowKit Go.Shelf Go.Proofs.YtcjplgcnjfinoaaDoorW.PrintWords Go.Proofs.YtcjplgcnjfinoaaDoorW.PrintMore
attribute [local go_sem] max2_int min2_int max_two min_two

/-- A slice of slices of bytes, read. -/
def RowsAt (W : World) (A : Option Addr) (n : Nat) (ls : List (List Int)) : Prop :=
  ls.length = n ∧ n ≤ 140737488351232 ∧ (0 < n → ∃ ad, A = some ad ∧ ∀ j, j < n → ∃ A' c, W.cell? (ad.add j) = some (.slice A' (ls.getD j []).length c) ∧ (ls.getD j []).length ≤ c ∧ ReadsInt W .u8 A' (ls.getD j []).length (ls.getD j []))
theorem RowsAt.below {W W' : World} {A : Option Addr} {n : Nat} {ls : List (List Int)} (h : RowsAt W A n ls) (hb : Below W.heap.size W W') : RowsAt W' A n ls :=
  ⟨h.1, h.2.1, fun hn => by
    obtain ⟨ad, e, hc⟩ := h.2.2 hn
    exact ⟨ad, e, fun j hj => by
      obtain ⟨A', c, h1, h2, h3⟩ := hc j hj
      exact ⟨A', c, pw_cell_below hb h1, h2, h3.below hb⟩⟩⟩
theorem rowsAt_nil (W : World) : RowsAt W none 0 [] := ⟨rfl, by omega, fun h => absurd h (by omega)⟩
theorem flatten_take_succ (ls : List (List Int)) (i : Nat) (hi : i < ls.length) : (ls.take (i + 1)).flatten = (ls.take i).flatten ++ ls.getD i [] := by
  have : ls.getD i [] = ls[i] := by rw [List.getD_eq_getElem?_getD, List.getElem?_eq_getElem hi]; rfl
  rw [this, List.take_succ_eq_append_getElem hi, List.flatten_append]
  simp
theorem flatten_take_le (ls : List (List Int)) (i : Nat) : (ls.take i).flatten.length ≤ ls.flatten.length := by
  have h : ls.flatten = (ls.take i).flatten ++ (ls.drop i).flatten := by rw [← List.flatten_append, List.take_append_drop]
  rw [h, List.length_append]
  omega
theorem row_le (ls : List (List Int)) (i : Nat) (hi : i < ls.length) : (ls.getD i []).length ≤ ls.flatten.length := by
  have h1 := flatten_take_le ls (i + 1)
  rw [flatten_take_succ ls i hi, List.length_append] at h1
  omega

set_option maxRecDepth 100000 in
set_option maxHeartbeats 2000000 in
theorem own_any (A : Option Addr) (n c : Nat) (xs : List Int) (w : World) (hr : ReadsInt w .u8 A n xs) (hn : n ≤ 140737488351232) :
    Calls Tryd.prog 14 #[.slice A n c] w fun e w' => (∃ B d, e = .returned (.slice B n d) ∧ n ≤ d ∧ w'.ownsRow w.heap.size 5 1 (.slice B n d) n (nums .u8 xs) ∧ ReadsInt w' .u8 B n xs) ∧ Below w.heap.size w w' := by
  have hxl : xs.length = n := hr.1
  have ho0 := own_lit w w.heap.size 5 .u8 [] (Nat.le_refl _) (by simp)
  have HO := Lib.hid ho0
  have HR := Lib.hid (fun W (hb : Below w.heap.size w W) => hr.below hb)
  have hb0 : Below w.heap.size w (w.alloc (.cells #[] 5)) := bl_alloc (Below.refl _ _) _
  clear hr ho0
  go_enter Tryd.func14, Tryd.ntmps14
  go_wp2_with (at_builtin; refine print_append_row (w0 := w) w.heap.size rfl (.tmp 3) (.tmp 4) 23 5 .u8 1 rfl Tryd.underlying23 infoByte (by decide) _ [] xs A n c rfl rfl HO.out (HR.out _ hb0) hb0 hb0.size (by simp; omega) ?_; intro v1 w1 hown1 hb1 hg1 hat1)
  obtain ⟨B, d, rfl, hrd⟩ := own_reads hown1
  have hle := own_le hown1
  simp only [List.nil_append, hxl] at hown1 hrd hle ⊢
  have HX := Lib.hid (And.intro hle (And.intro hown1 hrd))
  clear hle hown1 hrd
  go_ret
  exact ⟨⟨_, _, rfl, HX.out⟩, by (repeat (first | (with_reducible exact Below.refl _ _) | (with_reducible assumption) | (with_reducible apply bl_alloc) | (with_reducible apply bl_iter) | (with_reducible apply bl_drew) | (with_reducible apply bl_drewN) | (with_reducible refine bl_set ?_ (by first | assumption | (simp; done) | omega | (simp; omega)) _) | (with_reducible refine bl_then ?_ (by with_reducible assumption))))⟩

set_option maxRecDepth 100000 in
set_option maxHeartbeats 2000000 in
theorem Joined_at (A : Option Addr) (n c : Nat) (ls : List (List Int)) (xs : List Int) (hxs : ls.flatten = xs) (w : World) (hr : RowsAt w A n ls) (hn : xs.length ≤ 140737488351232) :
    Calls Tryd.prog 12 #[.slice A n c] w fun e w' => (∃ B d, e = .returned (.slice B xs.length d) ∧ xs.length ≤ d ∧ ReadsInt w' .u8 B xs.length xs) ∧ Below w.heap.size w w' := by
  have hll : ls.length = n := hr.1
  have hnn := hr.2.1
  have HO := Lib.hid (own_lit w w.heap.size 5 .u8 [] (Nat.le_refl _) (by simp))
  have HR := Lib.hid (fun W (hb : Below w.heap.size w W) => hr.below hb)
  have hb0 : Below w.heap.size w (w.alloc (.cells #[] 5)) := bl_alloc (Below.refl _ _) _
  have HL := Lib.hid hn
  have HXS := Lib.hid hxs
  clear hr hn hxs
  go_enter Tryd.func12, Tryd.ntmps12
  go_wp2
  go_loopw [3, 4] (fun v u wr => ∃ i : Nat, i ≤ n ∧ u = .int .i64 i ∧ wr.ownsRow w.heap.size 5 1 v (ls.take i).flatten.length (nums .u8 (ls.take i).flatten) ∧ Below w.heap.size w wr) (fun _ u _ => n - (intOf u).toNat)
  case atStart => exact ⟨0, Nat.zero_le _, rfl, HO.out, hb0⟩
  case round =>
    obtain ⟨i, hi, rfl, hown, hbl⟩ := hrel
    by_cases hlt : i < n
    · have hlt' : (i : Int) < n := by omega
      obtain ⟨ad, rfl, hc⟩ := (HR.out wr hbl).2.2 (by omega)
      obtain ⟨A', c', hcell, hle, hrd⟩ := hc i hlt
      have HS := Lib.hid (flatten_take_succ ls i (by omega))
      have HT := Lib.hid (flatten_take_le ls (i + 1))
      have hsum : (ls.take i).flatten.length + (ls.getD i []).length ≤ 140737488351232 := by
        have h1 := HT.out
        have h2 := HL.out
        rw [HXS.out, HS.out, List.length_append] at h1
        omega
      have hlt2 : (0 : Int) ≤ (i : Int) := by omega
      have HO2 := Lib.hid hown
      have HRd := Lib.hid hrd
      clear hc hown hrd HR
      generalize ls.getD i [] = row at *
      go_wp2_with (at_builtin; refine print_append_row (w0 := w) w.heap.size rfl (.tmp 12) (.tmp 16) 23 5 .u8 1 rfl Tryd.underlying23 infoByte (by decide) u3 (ls.take i).flatten row A' row.length c' rfl rfl HO2.out HRd.out hbl hbl.size (by omega) ?_; intro v1 w1 hown1 hb1 hg1 hat1)
      go_roundw
      case rel => exact ⟨i + 1, by omega, by go_num, by rw [HS.out]; exact hown1, hb1⟩
      case measure => simp [intOf]; omega
    · have hlt' : ¬ (i : Int) < n := by omega
      have e : (ls.take i).flatten = xs := by rw [List.take_of_length_le (by omega), HXS.out]
      rw [e] at hown
      obtain ⟨B, d, rfl, hrd⟩ := own_reads hown
      have hle := own_le hown
      have HX := Lib.hid (And.intro hle hrd)
      clear hown hrd hle e HR
      go_wp2
      go_ret
      exact ⟨⟨_, _, rfl, HX.out⟩, hbl⟩

theorem Joined_any (A : Option Addr) (n c : Nat) (ls : List (List Int)) (w : World) (hr : RowsAt w A n ls) (hn : ls.flatten.length ≤ 140737488351232) :
    Calls Tryd.prog 12 #[.slice A n c] w fun e w' => (∃ B d, e = .returned (.slice B ls.flatten.length d) ∧ ls.flatten.length ≤ d ∧ ReadsInt w' .u8 B ls.flatten.length ls.flatten) ∧ Below w.heap.size w w' := Joined_at A n c ls ls.flatten rfl w hr hn

set_option maxRecDepth 100000 in
set_option maxHeartbeats 4000000 in
theorem RopeOf_any (A : Option Addr) (n c : Nat) (ls : List (List Int)) (w : World) (he : Env w) (hr : RowsAt w A n ls) (hn : ls.flatten.length ≤ 268435456) :
    Calls Tryd.prog 13 #[.slice A n c] w fun e w' => (∃ p, e = .returned (.pointer (some ⟨p, 0, none⟩)) ∧ w.heap.size ≤ p ∧ RopeAt w' p (strOfNums ls.flatten)) ∧ Below w.heap.size w w' := by
  have hll : ls.length = n := hr.1
  have hnn := hr.2.1
  have HR := Lib.hid (fun W (hb : Below w.heap.size w W) => hr.below hb)
  have HE := Lib.hid (fun W (hb : Below w.heap.size w W) => he.below hb)
  have HL := Lib.hid hn
  have HN := Lib.hid (New_any none 0 0 [] w he ⟨rfl, by omega, fun h => absurd h (by omega)⟩ (Nat.le_refl _) (by omega))
  clear hr he hn
  go_enter Tryd.func13, Tryd.ntmps13
  go_wp2_with (go_at_call 32; refine HN.out.mono ?_; clear HN; rintro e w1 ⟨⟨p1, rfl, hp1, hR1⟩, hb1⟩; have HR1 := Lib.hid hR1; clear hR1)
  go_loopw [3, 4, 5] (fun v e u wr => ∃ (i p : Nat), i ≤ n ∧ v = .pointer (some ⟨p, 0, none⟩) ∧ e = .int .i64 0 ∧ u = .int .i64 i ∧ w.heap.size ≤ p ∧ RopeAt wr p (strOfNums (ls.take i).flatten) ∧ Below w.heap.size w wr) (fun _ _ u _ => n - (intOf u).toNat)
  case atStart => exact ⟨0, p1, Nat.zero_le _, rfl, rfl, rfl, hp1, HR1.out, hb1⟩
  case round =>
    obtain ⟨i, p, hi, rfl, rfl, rfl, hp, hrope, hbl⟩ := hrel
    by_cases hlt : i < n
    · have hlt' : (i : Int) < n := by omega
      obtain ⟨ad, rfl, hc⟩ := (HR.out wr hbl).2.2 (by omega)
      obtain ⟨A', c', hcell, hle, hrd⟩ := hc i hlt
      have HS := Lib.hid (flatten_take_succ ls i (by omega))
      have hsum : (ls.take i).flatten.length + (ls.getD i []).length ≤ 268435456 := by
        have h1 := flatten_take_le ls (i + 1)
        have h2 := HL.out
        rw [HS.out, List.length_append] at h1
        omega
      have hlt2 : (0 : Int) ≤ (i : Int) := by omega
      have HP := Lib.hid hrope
      have HRd := Lib.hid (fun W (hb : Below wr.heap.size wr W) => hrd.below hb)
      have ho0 := own_lit wr wr.heap.size 5 .u8 [] (Nat.le_refl _) (by simp)
      have HO := Lib.hid ho0
      have hb0 : Below wr.heap.size wr (wr.alloc (.cells #[] 5)) := bl_alloc (Below.refl _ _) _
      have hcell0 : (wr.alloc (.cells #[] 5)).cell? (ad.add i) = some (.slice A' (ls.getD i []).length c') := pw_cell_below hb0 hcell
      clear hc hrope hrd HR ho0
      generalize ls.getD i [] = row at *
      go_wp2_with (first
        | (at_builtin; refine print_append_row (w0 := wr) wr.heap.size rfl (.tmp 22) (.tmp 26) 23 5 .u8 1 rfl Tryd.underlying23 infoByte (by decide) _ [] row A' row.length c' rfl rfl HO.out (HRd.out _ hb0) hb0 hb0.size (by simp; omega) ?_; intro v1 w2 hown2 hb2 hg2 hat2; obtain ⟨B, d, rfl, hrd2⟩ := own_reads hown2; have hle2 := own_le hown2; simp only [List.nil_append] at hrd2 hle2; have HRd2 := Lib.hid hrd2; clear hrd2 hown2 hg2 hat2)
        | (go_at_call 32; refine (New_any B row.length d row w2 (HE.out w2 (hbl.trans (hb2.mono hbl.size))) HRd2.out hle2 (by omega)).mono ?_; rintro e w3 ⟨⟨p3, rfl, hp3, hR3⟩, hb3⟩; have HR3 := Lib.hid hR3; clear hR3)
        | (go_at_call 33; refine (ropeJoin_any p p3 (strOfNums (ls.take i).flatten) (strOfNums row) (by rw [strOfNums_size, strOfNums_size]; omega) w3 (HE.out w3 (hbl.trans ((hb2.trans (hb3.mono hb2.size)).mono hbl.size))) ((HP.out.below hb2).below hb3) HR3.out).mono ?_; rintro e w4 ⟨⟨p4, rfl, hp4, hR4⟩, hb4⟩; have HR4 := Lib.hid hR4; clear hR4))
      have hw3 := hb2.trans (hb3.mono hb2.size)
      have hw4 := hbl.trans ((hw3.trans (hb4.mono hw3.size)).mono hbl.size)
      have hz := (hbl.trans (hw3.mono hbl.size)).size
      have HF := Lib.hid (show RopeAt w4 p4 (strOfNums (ls.take (i + 1)).flatten) from by rw [HS.out, strOfNums_append]; exact HR4.out)
      go_roundw
      case rel => exact ⟨i + 1, p4, by omega, rfl, rfl, by go_num, by omega, HF.out, hw4⟩
      case measure => simp [intOf]; omega
    · have hlt' : ¬ (i : Int) < n := by omega
      have e : ls.take i = ls := List.take_of_length_le (by omega)
      rw [e] at hrope
      have HX := Lib.hid hrope
      clear hrope e HR
      go_wp2
      go_ret
      exact ⟨⟨_, rfl, hp, HX.out⟩, hbl⟩
end Go.Proofs.YtcjplgcnjfinoaaDoor

namespace Go.Proofs.YtcjplgcnjfinoaaDoor
open Go.RowKit Go.Shelf Go.Proofs.YtcjplgcnjfinoaaDoorW.PrintWords Go.Proofs.YtcjplgcnjfinoaaDoorW.PrintLast Go.Proofs.YtcjplgcnjfinoaaDoorW.PrintMore
attribute [local go_sem] max2_int min2_int max_two min_two

theorem eqHit (d : Nat) (w : World) (x0 y0 x1 y1 : Int) :
    (Op.equalIn (d + 2) 35 (.agg #[.int .i64 x0, .int .i64 x1]) (.agg #[.int .i64 y0, .int .i64 y1])).run Tryd.prog w = .ok (x0 == y0 && (x1 == y1)) w := by
  refine eqA_of Tryd.underlying35 (by kernel_rfl) ?_
  refine eqf_cons (by rfl) (by go_simp; rfl) (by go_simp; rfl) (by go_simp) ?_
  exact eqf_last (by rfl) (by go_simp; rfl) (by go_simp; rfl) (by go_simp)
attribute [local go_sem high] eqHit

/-- '[]byte("..")' of a constant: the literal's row gets its mark. -/
theorem conv_lit (W : World) (g : Nat) (hg : g = W.heap.size) (C : Array Value) (n c : Nat) : (convert 23 23 (.slice (some ⟨g, 0, none⟩) n c)).run Tryd.prog (W.alloc (.cells C 5)) = .ok (.slice (some ⟨g, 0, none⟩) n c) (W.alloc (.cells C 5 (C.size, C.size + 1))) := by
  subst hg
  exact Lib.run_convert_bytes_const W 23 5 C n c Tryd.underlying23 Tryd.underlying5
/-- Bytes of a literal, read. -/
theorem lit_reads (W : World) (g : Nat) (hg : g = W.heap.size) (xs : List Int) (fr : Nat × Nat) (hm : xs.length ≤ 9223372036854775807) : ReadsInt (W.alloc (.cells (nums .u8 xs).toArray 5 fr)) .u8 (some ⟨g, 0, none⟩) xs.length xs := by
  subst hg
  refine ⟨rfl, hm, fun _ => ⟨_, rfl, fun j hj => ?_⟩⟩
  rw [add_plain, cell_of_row (W.alloc (.cells (nums .u8 xs).toArray 5 fr)) W.heap.size j _ _ fr (heap_alloc_new W _)]
  simp [nums, hj, List.getD_eq_getElem?_getD]
def awakeText : List Int := [97, 88, 97, 226, 130, 172, 120, 97, 97, 226, 130, 97]
theorem awake_hits : hitsI false (bytesOf (strOfNums awakeText)) [130] = [(10, 11)] := by kernel_rfl
theorem awake_count : (hitsI false (bytesOf (strOfNums awakeText)) [97]).length = 5 := by kernel_rfl
theorem awake_size : (strOfNums awakeText).size = 12 := by kernel_rfl

/-- The two pieces of the document's example. -/
theorem awake_rows (W : World) (g a b : Nat) (h0 : W.cell? ⟨g, 0, none⟩ = some (.slice (some ⟨a, 0, none⟩) 4 4)) (h1 : W.cell? ⟨g, 1, none⟩ = some (.slice (some ⟨b, 0, none⟩) 8 8)) (ha : ReadsInt W .u8 (some ⟨a, 0, none⟩) 4 [97, 88, 97, 226]) (hb : ReadsInt W .u8 (some ⟨b, 0, none⟩) 8 [130, 172, 120, 97, 97, 226, 130, 97]) : RowsAt W (some ⟨g, 0, none⟩) 2 [[97, 88, 97, 226], [130, 172, 120, 97, 97, 226, 130, 97]] := by
  refine ⟨rfl, by omega, fun _ => ⟨_, rfl, fun j hj => ?_⟩⟩
  obtain rfl | rfl : j = 0 ∨ j = 1 := by omega
  · exact ⟨_, _, h0, by decide, ha⟩
  · exact ⟨_, _, h1, by decide, hb⟩

theorem hit_one {W : World} {base : Nat} {v : Value} {a b : Int} (h : W.ownsRow base 35 2 v 1 (hitCells [(a, b)])) : ∃ g c, v = .slice (some ⟨g, 0, none⟩) 1 c ∧ W.cell? ⟨g, 0, none⟩ = some (.int .i64 a) ∧ W.cell? ⟨g, 1, none⟩ = some (.int .i64 b) := by
  obtain ⟨g, c, rfl, -⟩ := h.form (by omega)
  have h0 := h.cells (g := g) rfl 0 (.int .i64 a) rfl
  have h1 := h.cells (g := g) rfl 1 (.int .i64 b) rfl
  exact ⟨g, c, rfl, h0, h1⟩
theorem one_range (x : Int) (h0 : 0 ≤ x) (h1 : x ≤ 255) (i : Nat) : 0 ≤ [x].getD i 0 ∧ [x].getD i 0 ≤ 255 := by
  cases i with
  | zero => exact ⟨h0, h1⟩
  | succ i => simp

set_option maxRecDepth 100000 in
set_option maxHeartbeats 8000000 in
theorem awake_any (w : World) (he : Env w) :
    Calls Tryd.prog 11 #[] w fun e w' => e = .returned (.bool true) ∧ Below w.heap.size w w' := by
  have HE := Lib.hid (fun W (hb : Below w.heap.size w W) => he.below hb)
  have hc1 := conv_lit w w.heap.size rfl #[.int .u8 97, .int .u8 88, .int .u8 97, .int .u8 226] 4 4
  have hc2 := conv_lit (w.alloc (.cells #[.int .u8 97, .int .u8 88, .int .u8 97, .int .u8 226] 5 (4, 5))) (w.heap.size + 1) (by simp) #[.int .u8 130, .int .u8 172, .int .u8 120, .int .u8 97, .int .u8 97, .int .u8 226, .int .u8 130, .int .u8 97] 8 8
  have hc3 := fun (W : World) (C : Array Value) (n c : Nat) => conv_lit W W.heap.size rfl C n c
  have ra := lit_reads w w.heap.size rfl [97, 88, 97, 226] (4, 5) (by decide)
  have rb := lit_reads (w.alloc (.cells #[.int .u8 97, .int .u8 88, .int .u8 97, .int .u8 226] 5 (4, 5))) (w.heap.size + 1) (by simp) [130, 172, 120, 97, 97, 226, 130, 97] (8, 9) (by decide)
  have b2 := Below.refl w.heap.size w
  have b2 := bl_alloc b2 (.cells #[.int .u8 97, .int .u8 88, .int .u8 97, .int .u8 226] 5 (4, 5))
  have b2 := bl_alloc b2 (.cells #[.int .u8 130, .int .u8 172, .int .u8 120, .int .u8 97, .int .u8 97, .int .u8 226, .int .u8 130, .int .u8 97] 5 (8, 9))
  have ra2 := (ra.below (bl_alloc (Below.refl _ _) (.cells #[.int .u8 130, .int .u8 172, .int .u8 120, .int .u8 97, .int .u8 97, .int .u8 226, .int .u8 130, .int .u8 97] 5 (8, 9))))
  have hR := awake_rows (((w.alloc (.cells #[.int .u8 97, .int .u8 88, .int .u8 97, .int .u8 226] 5 (4, 5))).alloc (.cells #[.int .u8 130, .int .u8 172, .int .u8 120, .int .u8 97, .int .u8 97, .int .u8 226, .int .u8 130, .int .u8 97] 5 (8, 9))).alloc (.cells #[.slice (some ⟨w.heap.size, 0, none⟩) 4 4, .slice (some ⟨w.heap.size + 1, 0, none⟩) 8 8] 23)) (w.heap.size + 1 + 1) w.heap.size (w.heap.size + 1) ((Blk.new' (by simp) _ _).cell 0) ((Blk.new' (by simp) _ _).cell 1) (ra2.below (bl_alloc (Below.refl _ _) _)) (rb.below (bl_alloc (Below.refl _ _) _))
  have HRp := Lib.hid (RopeOf_any _ 2 2 _ _ (HE.out _ (bl_alloc b2 (.cells #[.slice (some ⟨w.heap.size, 0, none⟩) 4 4, .slice (some ⟨w.heap.size + 1, 0, none⟩) 8 8] 23))) hR (by decide))
  have hfl : ([[97, 88, 97, 226], [130, 172, 120, 97, 97, 226, 130, 97]] : List (List Int)).flatten = awakeText := rfl
  rw [hfl] at HRp
  have HS := Lib.hid awake_size
  have HI := Lib.hid awake_hits
  have HC := Lib.hid awake_count
  clear hR b2 ra ra2 rb hfl
  generalize awakeText = tx at *
  go_enter Tryd.func11, Tryd.ntmps11
  go_wp2_with (first
    | (go_at_call 13; refine HRp.out.mono ?_; clear HRp; rintro e w1 ⟨⟨p, rfl, hp, hR⟩, hb1⟩; have HRo := Lib.hid hR; clear hR; have hbw1 : Below w.heap.size w w1 := by (repeat (first | (with_reducible exact Below.refl _ _) | (with_reducible assumption) | (with_reducible apply bl_alloc) | (with_reducible apply bl_iter) | (with_reducible apply bl_drew) | (with_reducible apply bl_drewN) | (with_reducible refine bl_set ?_ (by first | assumption | (simp; done) | omega | (simp; omega)) _) | (with_reducible refine bl_then ?_ (by with_reducible assumption)))))
    | (go_at_call 15; refine (All_any p (strOfNums tx) (by rw [HS.out]; decide) (some ⟨w1.heap.size, 0, none⟩) 1 1 [130] (by decide) (by decide) (by decide) (one_range 130 (by decide) (by decide)) false _ (HE.out _ (bl_alloc hbw1 _)) (HRo.out.below (bl_alloc (Below.refl _ _) _)) (lit_reads w1 w1.heap.size rfl [130] (1, 2) (by decide))).mono ?_; rintro e w2 ⟨⟨v, rfl, hv⟩, hb2⟩; rw [HI.out] at hv; obtain ⟨gv, cv, rfl, v0, v1⟩ := hit_one hv; clear hv; have hbw2 : Below w1.heap.size w1 w2 := (bl_alloc (Below.refl _ _) _).trans (hb2.mono (by simp)))
    | (go_at_call 19; refine (Count_any p (strOfNums tx) (by rw [HS.out]; decide) (some ⟨w2.heap.size, 0, none⟩) 1 1 [97] (by decide) (by decide) (by decide) (one_range 97 (by decide) (by decide)) false _ (HE.out _ (bl_alloc (hbw1.trans (hbw2.mono hbw1.size)) _)) ((HRo.out.below hbw2).below (bl_alloc (Below.refl _ _) _)) (lit_reads w2 w2.heap.size rfl [97] (1, 2) (by decide))).mono ?_; rintro e w3 ⟨rfl, hb3⟩; have hc5 := HC.out; have hbw3 : Below w2.heap.size w2 w3 := (bl_alloc (Below.refl _ _) _).trans (hb3.mono (by simp)); have x0 := pw_cell_below hbw3 v0; have x1 := pw_cell_below hbw3 v1))
  have hfin : Below w.heap.size w w3 := hbw1.trans ((hbw2.trans (hbw3.mono hbw2.size)).mono hbw1.size)
  all_goals go_ret
  all_goals exact ⟨by simp, hfin⟩
end Go.Proofs.YtcjplgcnjfinoaaDoor
