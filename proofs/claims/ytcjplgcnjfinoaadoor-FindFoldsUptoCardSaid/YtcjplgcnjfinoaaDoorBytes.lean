/- Contracts of (*rope.Rope).Pieces, its closure, and Bytes of the whole text. Contract of (*rope.Rope).Bytes of the whole text. -/
import Derived.Test.YtcjplgcnjfinoaaDoorFwd
import Derived.Test.YtcjplgcnjfinoaaDoorRopeJ
namespace Go.Proofs.YtcjplgcnjfinoaaDoor
open Go.RowKit Go.Shelf Go.Proofs.YtcjplgcnjfinoaaDoorW.PrintWords Go.Proofs.YtcjplgcnjfinoaaDoorW.PrintMore
attribute [local go_sem] Oper.semAt_some max2_int min2_int max_two min_two

theorem bytesOf_append (s t : ByteArray) : bytesOf (s ++ t) = bytesOf s ++ bytesOf t := by simp [bytesOf]
theorem RT.leaves_flat : ∀ T : RT, T.leaves.flatten = bytesOf T.bytes
  | .tip s => by simp [RT.leaves, RT.bytes]
  | .fork a b => by
    show (a.leaves ++ b.leaves).flatten = bytesOf (a.bytes ++ b.bytes)
    rw [List.flatten_append, RT.leaves_flat a, RT.leaves_flat b, bytesOf_append]

set_option maxRecDepth 100000 in
theorem Pieces_any (r : Nat) (w : World) :
    Calls Tryd.prog 44 #[.pointer (some ⟨r, 0, none⟩), .int .i64 0, .bool false] w fun e w' => e = .returned (.func (.func 64) #[] #[.pointer (some ⟨w.heap.size, 0, none⟩), .pointer (some ⟨w.heap.size + 1, 0, none⟩), .pointer (some ⟨w.heap.size + 1 + 1, 0, none⟩)]) ∧
      w' = ((w.alloc (.cells #[.pointer (some ⟨r, 0, none⟩)] 26)).alloc (.cells #[.int .i64 0] 3)).alloc (.cells #[.bool false] 4) := by
  go_enter Tryd.func44, Tryd.ntmps44
  go_wp2
  go_ret
  exact ⟨rfl, rfl⟩

/-- What the closure of Pieces promises a loop, for the list of pieces L. -/
def PiecesOf (w0 : World) (r : Nat) (L : List (List Int)) : Prop :=
  ∀ (l : Nat) (J Jx : List (List Int) → World → Prop), (∀ pre X Y, J pre X → Below X.heap.size X Y → J pre Y) → Rounds Tryd.prog l w0.heap.size L J Jx → ∀ (n : Nat) (W : World) (b1 b2 b3 : Nat), Below w0.heap.size w0 W →
    W.cell? ⟨b1, 0, none⟩ = some (.pointer (some ⟨r, 0, none⟩)) → W.cell? ⟨b2, 0, none⟩ = some (.int .i64 0) → W.cell? ⟨b3, 0, none⟩ = some (.bool false) → J [] W →
      CallsIn Fence.wide n Tryd.prog 64 #[.func (.yield l) #[] #[], .pointer (some ⟨b1, 0, none⟩), .pointer (some ⟨b2, 0, none⟩), .pointer (some ⟨b3, 0, none⟩)] W fun e W' => (∃ v, e = .returned v) ∧ (J L W' ∨ ∃ pre, Jx pre W')

set_option maxRecDepth 100000 in
set_option maxHeartbeats 2000000 in
theorem pieces1_in (w0 : World) (r : Nat) (s : ByteArray) (v : Value) (L : List (List Int)) (hb : Blk w0 r #[v] 108) (hT : RopeAt w0 r s)
    (hF : ∀ (l : Nat) (J Jx : List (List Int) → World → Prop), (∀ pre X Y, J pre X → Below X.heap.size X Y → J pre Y) → Rounds Tryd.prog l w0.heap.size L J Jx → ∀ (n : Nat) (W : World), Below w0.heap.size w0 W → J [] W →
      CallsIn Fence.wide n Tryd.prog 66 #[v, .int .i64 0, .func (.yield l) #[] #[]] W fun e W' => ∃ o, e = .returned (.bool o) ∧ (J L W' ∨ ∃ pre, Jx pre W')) (hv : v = .nilIface ∨ ∃ t rv, v = .iface t rv) : PiecesOf w0 r L := by
  intro l J Jx hJ hR n W b1 b2 b3 hbW c1 c2 c3 h0
  have HP := Lib.hid (place_any r s 0 (Nat.zero_le _) W (hT.below hbW))
  have HF := Lib.hid (fun X (h : Below W.heap.size W X) => hF l J Jx hJ hR (n - 1) X (hbW.trans (bl_down hbW.size h)) (hJ _ _ _ h0 h))
  have d1 : W.cell? ⟨r, 0, none⟩ = some v := (hb.below hbW).cell 0
  have z1 := cell_lt c1
  have z2 := cell_lt c2
  have z3 := cell_lt c3
  have z4 := cell_lt d1
  dsimp only at z1 z2 z3 z4
  have hmx : Tryd.prog.follows .mixedOrders = true := by kernel_rfl
  clear hJ hR hF h0 hT hb hbW
  refine callsIn_of_wp Tryd.func64 rfl trivial ?_ rfl
  simp only [Tryd.ntmps64, List.size_toArray, List.length_cons, List.length_nil, Nat.reduceAdd, Nat.reduceSub, Array.replicate_succ, Array.replicate_zero, List.push_toArray, List.append_toArray, List.nil_append, List.cons_append]
  obtain rfl | ⟨t, rv, rfl⟩ := hv
  · gi_wp2_with (refine ⟨trivial, by simp [Fence.wide], ?_⟩; gi_at_call 43; refine (callsIn_wide.2 HP.out).mono ?_; clear HP; rintro e w1 ⟨rfl, hb1⟩; obtain ⟨hcl1, hfr1⟩ := bcell hb1)
    gi_region_with_o (first | (refine ⟨trivial, by simp [Fence.wide], ?_⟩; gi_at_call 66; refine (HF.out _ (by (repeat (first | (with_reducible exact Below.refl _ _) | (with_reducible assumption) | (with_reducible apply bl_alloc) | (with_reducible apply bl_iter) | (with_reducible apply bl_drew) | (with_reducible apply bl_drewN) | (with_reducible refine bl_set ?_ (by first | assumption | (simp; done) | omega | (simp; omega)) _) | (with_reducible refine bl_then ?_ (by with_reducible assumption)))))).mono ?_; clear HF; rintro e w2 ⟨o, rfl, hX⟩) | (refine ⟨trivial, ?_⟩; gi_at_call 66; refine (HF.out _ (by (repeat (first | (with_reducible exact Below.refl _ _) | (with_reducible assumption) | (with_reducible apply bl_alloc) | (with_reducible apply bl_iter) | (with_reducible apply bl_drew) | (with_reducible apply bl_drewN) | (with_reducible refine bl_set ?_ (by first | assumption | (simp; done) | omega | (simp; omega)) _) | (with_reducible refine bl_then ?_ (by with_reducible assumption)))))).mono ?_; clear HF; rintro e w2 ⟨o, rfl, hX⟩) | (gi_at_call 66; refine (HF.out _ (by (repeat (first | (with_reducible exact Below.refl _ _) | (with_reducible assumption) | (with_reducible apply bl_alloc) | (with_reducible apply bl_iter) | (with_reducible apply bl_drew) | (with_reducible apply bl_drewN) | (with_reducible refine bl_set ?_ (by first | assumption | (simp; done) | omega | (simp; omega)) _) | (with_reducible refine bl_then ?_ (by with_reducible assumption)))))).mono ?_; clear HF; rintro e w2 ⟨o, rfl, hX⟩))
    all_goals gi_wp2
    all_goals go_end0
    all_goals exact ⟨⟨_, rfl⟩, hX⟩
  · gi_wp2_with (refine ⟨trivial, by simp [Fence.wide], ?_⟩; gi_at_call 43; refine (callsIn_wide.2 HP.out).mono ?_; clear HP; rintro e w1 ⟨rfl, hb1⟩; obtain ⟨hcl1, hfr1⟩ := bcell hb1)
    gi_region_with_o (first | (refine ⟨trivial, by simp [Fence.wide], ?_⟩; gi_at_call 66; refine (HF.out _ (by (repeat (first | (with_reducible exact Below.refl _ _) | (with_reducible assumption) | (with_reducible apply bl_alloc) | (with_reducible apply bl_iter) | (with_reducible apply bl_drew) | (with_reducible apply bl_drewN) | (with_reducible refine bl_set ?_ (by first | assumption | (simp; done) | omega | (simp; omega)) _) | (with_reducible refine bl_then ?_ (by with_reducible assumption)))))).mono ?_; clear HF; rintro e w2 ⟨o, rfl, hX⟩) | (refine ⟨trivial, ?_⟩; gi_at_call 66; refine (HF.out _ (by (repeat (first | (with_reducible exact Below.refl _ _) | (with_reducible assumption) | (with_reducible apply bl_alloc) | (with_reducible apply bl_iter) | (with_reducible apply bl_drew) | (with_reducible apply bl_drewN) | (with_reducible refine bl_set ?_ (by first | assumption | (simp; done) | omega | (simp; omega)) _) | (with_reducible refine bl_then ?_ (by with_reducible assumption)))))).mono ?_; clear HF; rintro e w2 ⟨o, rfl, hX⟩) | (gi_at_call 66; refine (HF.out _ (by (repeat (first | (with_reducible exact Below.refl _ _) | (with_reducible assumption) | (with_reducible apply bl_alloc) | (with_reducible apply bl_iter) | (with_reducible apply bl_drew) | (with_reducible apply bl_drewN) | (with_reducible refine bl_set ?_ (by first | assumption | (simp; done) | omega | (simp; omega)) _) | (with_reducible refine bl_then ?_ (by with_reducible assumption)))))).mono ?_; clear HF; rintro e w2 ⟨o, rfl, hX⟩))
    all_goals gi_wp2
    all_goals go_end0
    all_goals exact ⟨⟨_, rfl⟩, hX⟩

theorem pieces_of (w0 : World) (r : Nat) (s : ByteArray) (hT : RopeAt w0 r s) (hs : s.size ≤ 268435456) : ∃ L, L.flatten = bytesOf s ∧ PiecesOf w0 r L := by
  have hT' := hT
  obtain ⟨v, hb, ⟨rfl, rfl⟩ | ⟨T, h1, h2, rfl⟩⟩ := hT
  · refine ⟨[], rfl, pieces1_in w0 r _ _ [] hb hT' (fun l J Jx _ _ n W _ h0 => (forwards_nil n _ W).mono ?_) (.inl rfl)⟩
    rintro e W' ⟨rfl, rfl⟩
    exact ⟨_, rfl, .inl h0⟩
  · obtain ⟨t, rv, -, -, -, rfl, -⟩ := h1.fns
    refine ⟨T.leaves, T.leaves_flat, pieces1_in w0 r _ _ T.leaves hb hT' (fun l J Jx hJ hR n W hbW h0 => (forwards_in w0 l T.leaves J Jx hJ hR T n _ [] W h2 hs h1 hbW h0 (List.prefix_refl _)).mono ?_) (.inr ⟨_, _, rfl⟩)⟩
    rintro e W' (⟨rfl, h3, -⟩ | ⟨rfl, h3⟩)
    · exact ⟨_, rfl, .inl h3⟩
    · exact ⟨_, rfl, .inr h3⟩
end Go.Proofs.YtcjplgcnjfinoaaDoor

namespace Go.Proofs.YtcjplgcnjfinoaaDoor
open Go.RowKit Go.Shelf Go.Proofs.YtcjplgcnjfinoaaDoorW.PrintWords Go.Proofs.YtcjplgcnjfinoaaDoorW.PrintMore
attribute [local go_sem] Oper.semAt_some max2_int min2_int max_two min_two

/-- What the loop of Bytes keeps. -/
def BytesI (w : World) (n B : Nat) (pre : List (List Int)) (W : World) : Prop :=
  ((∃ v, Boxed W B 23 v ∧ W.ownsRow w.heap.size 5 1 v pre.flatten.length (nums .u8 pre.flatten) ∧ True) ∧ Blk W w.heap.size #[.int .i64 0] 3 ∧ Blk W (w.heap.size + 1) #[.int .i64 n] 3) ∧ Below w.heap.size w W
theorem bytesI_own (w : World) (n B : Nat) {B0 : Nat} (hB : w.heap.size ≤ B0) : OwnFrom B0 (BytesI w n B) :=
  OwnFrom.and (Own.from (fun s' X Y row hs hg hr => ⟨holdsRow_own w.heap.size B 23 5 1 (fun pre : List (List Int) => pre.flatten.length) (fun pre => nums .u8 pre.flatten) (fun _ _ => True) s' X Y row hs.1 hg hr, blk_own _ _ (fun _ : List (List Int) => #[.int .i64 0]) s' X Y row hs.2.1 hg hr, blk_own _ _ (fun _ : List (List Int) => #[.int .i64 n]) s' X Y row hs.2.2 hg hr⟩) _) (ownFrom_below (Nat.le_refl _) hB)

/-- Behind an append to the slice in a box, and its store. -/
theorem boxed_onto {W w1 : World} {n₀ B : Nat} {t e : TypeId} {size : Nat} {v v' : Value} {k m : Nat} {xs ys : List Value} (hv : Boxed W B t v) (hte : t ≠ e) (hrow : W.ownsRow n₀ e size v k xs) (hn₀ : n₀ ≤ W.heap.size) (hB : n₀ ≤ B)
    (hown' : w1.ownsRow n₀ e size v' m ys) (hgrow : W.grownBy w1 v.ownBlock) :
    Boxed w1 B t v ∧ Boxed (w1.setCell ⟨B, 0, none⟩ v') B t v' ∧ (w1.setCell ⟨B, 0, none⟩ v').ownsRow n₀ e size v' m ys ∧ KeepsOthers W (w1.setCell ⟨B, 0, none⟩ v') ∧ Below n₀ W (w1.setCell ⟨B, 0, none⟩ v') := by
  have hv1 : Boxed w1 B t v := hv.kept hgrow (hv.not_row hte hrow)
  refine ⟨hv1, hv1.set v', hown'.kept (grownBy_setCell' w1 B v') (.inr (hv1.not_row hte hown').symm), (KeepsOthers.of_grownBy hgrow fun j o ej hj => ?_).trans (KeepsOthers.setCell _ _ _), ((Below.refl n₀ W).grown hgrow hn₀ (own_base hrow)).setCell (p := ⟨B, 0, none⟩) hB v'⟩
  rcases hrow.2 with ⟨rfl, _⟩ | ⟨g, cap, cur, rfl, _, hgb, _⟩
  · simp [Value.ownBlock] at ej
  · obtain rfl : g = j := by simpa [Value.ownBlock] using ej
    rw [hgb] at hj; cases hj; rfl
theorem flat_fits {L pre : List (List Int)} {xs : List Int} (h : (pre ++ [xs]) <+: L) : pre.flatten.length + xs.length ≤ L.flatten.length := by
  obtain ⟨r, rfl⟩ := h
  simp only [List.flatten_append, List.length_append, List.flatten_cons, List.flatten_nil, List.append_nil]
  omega
theorem flat_whole {L pre : List (List Int)} {xs : List Int} (h : (pre ++ [xs]) <+: L) (hl : (pre ++ [xs]).flatten.length = L.flatten.length) : (pre ++ [xs]).flatten = L.flatten := by
  obtain ⟨r, rfl⟩ := h
  have e : (pre ++ [xs] ++ r).flatten = (pre ++ [xs]).flatten ++ r.flatten := List.flatten_append
  rw [e, List.length_append] at hl
  have hr : r.flatten = [] := List.eq_nil_of_length_eq_zero (by omega)
  rw [e, hr, List.append_nil]
theorem nums_cells {W : World} {ad : Addr} {n : Nat} {xs : List Int} (h : ReadsInt W .u8 (some ad) n xs) : ∀ j u, (nums .u8 xs)[j]? = some u → W.cell? (ad.add j) = some u := by
  intro j u hu
  have hj : j < xs.length := by
    rcases Nat.lt_or_ge j xs.length with h | h
    · exact h
    · simp [nums, List.getElem?_eq_none h] at hu
  have h1 := h.1
  obtain ⟨ad', e, hc⟩ := h.2.2 (by omega)
  cases e
  have := hc j (by omega)
  simp only [nums, List.getElem?_map, List.getElem?_eq_getElem hj, Option.map_some, Option.some.injEq] at hu
  rw [this, ← hu, List.getD_eq_getElem?_getD, List.getElem?_eq_getElem hj]
  rfl

theorem bytesI_step {w W w1 : World} {n Bt k : Nat} {pre : List (List Int)} {xs : List Int} {v v1 : Value} (hk : xs.length = k) (hB : Boxed W Bt 23 v) (ho : W.ownsRow w.heap.size 5 1 v pre.flatten.length (nums .u8 pre.flatten)) (hg0 : Blk W w.heap.size #[.int .i64 0] 3) (hg1 : Blk W (w.heap.size + 1) #[.int .i64 n] 3) (hbl : Below w.heap.size w W) (hgB : w.heap.size + 1 < Bt)
    (hown1 : w1.ownsRow w.heap.size 5 1 v1 (pre.flatten.length + k) (nums .u8 pre.flatten ++ nums .u8 xs)) (hgr : W.grownBy w1 v.ownBlock) :
    (Boxed w1 Bt 23 v ∧ w1.cell? ⟨w.heap.size, 0, none⟩ = some (.int .i64 0) ∧ w1.cell? ⟨w.heap.size + 1, 0, none⟩ = some (.int .i64 n)) ∧ KeepsOthers W (w1.setCell ⟨Bt, 0, none⟩ v1) ∧ Below w.heap.size W (w1.setCell ⟨Bt, 0, none⟩ v1) ∧ BytesI w n Bt (pre ++ [xs]) (w1.setCell ⟨Bt, 0, none⟩ v1) := by
  obtain ⟨b1, b2, b3, b4, b5⟩ := boxed_onto hB (by decide) ho hbl.size (by omega) hown1 hgr
  have h0 : Blk w1 w.heap.size #[.int .i64 0] 3 := blk_grown hg0 hgr (own_ne ho hg0 (by decide))
  have h1 : Blk w1 (w.heap.size + 1) #[.int .i64 n] 3 := blk_grown hg1 hgr (own_ne ho hg1 (by decide))
  have e : (pre ++ [xs]).flatten = pre.flatten ++ xs := by simp
  have hl : (pre ++ [xs]).flatten.length = pre.flatten.length + k := by rw [e, List.length_append, hk]
  refine ⟨⟨b1, h0.cell 0, h1.cell 0⟩, b4, b5, ⟨⟨⟨_, b2, ?_, trivial⟩, h0.other (by simp; omega) _, h1.other (by simp; omega) _⟩, hbl.trans b5⟩⟩
  rw [hl, e, nums_append]
  exact b3

set_option maxRecDepth 100000 in
set_option maxHeartbeats 4000000 in
theorem Bytes_any (r : Nat) (s : ByteArray) (hs : s.size ≤ 268435456) (w : World) (h : RopeAt w r s) :
    Calls Tryd.prog 30 #[.pointer (some ⟨r, 0, none⟩), .int .i64 0, .int .i64 s.size] w fun e w' => (∃ A c, e = .returned (.tuple #[.slice A s.size c, .int .i64 0]) ∧ s.size ≤ c ∧ ReadsInt w' .u8 A s.size (bytesOf s)) ∧ Below w.heap.size w w' := by
  refine (callsIn_wide (n := 6)).1 ?_
  refine callsIn_of_wp_marks Tryd.func30 rfl trivial ?_ rfl
  simp only [Tryd.ntmps30, List.size_toArray, List.length_cons, List.length_nil, Nat.reduceAdd, Nat.reduceSub, Array.replicate_succ, Array.replicate_zero, List.push_toArray, List.append_toArray, List.nil_append, List.cons_append]
  obtain ⟨L, hL, hPc⟩ := pieces_of w r s h hs
  have HP := Lib.hid (fun W hb => place_any r s s.size (Nat.le_refl _) W (h.below hb))
  have HPc := Lib.hid hPc
  have HL := Lib.hid hL
  obtain ⟨ib, hi, hz0, hz1, hz2⟩ := info_parts infoByte
  have g1 : IntKind.i64.wrap ((s.size : Int) - 0) = (s.size : Int) := by rw [Int.sub_zero]; exact IntWalk.i64_in _ (by omega)
  have g2 : ¬ (s.size : Int) < 0 := by omega
  have hmx : Tryd.prog.follows .mixedOrders = true := by kernel_rfl
  clear h hPc hL
  gi_wp2_with (first
    | (refine ⟨trivial, ?_⟩; gi_at_call 43; refine (callsIn_wide.2 (HP.out _ (by (repeat (first | (with_reducible exact Below.refl _ _) | (with_reducible assumption) | (with_reducible apply bl_alloc) | (with_reducible apply bl_iter) | (with_reducible apply bl_drew) | (with_reducible apply bl_drewN) | (with_reducible refine bl_set ?_ (by first | assumption | (simp; done) | omega | (simp; omega)) _) | (with_reducible refine bl_then ?_ (by with_reducible assumption))))))).mono ?_; clear HP; rintro e w1 ⟨rfl, hb1⟩; obtain ⟨hcl1, hfr1⟩ := bcell hb1; obtain ⟨y0, y1⟩ : w.heap.size < w1.heap.size ∧ w.heap.size + 1 < w1.heap.size := by have hz := hb1.size; (try simp at hz); omega)
    | (gi_at_make; refine wpListIn_make_own _ rfl _ (.tmp 26) 23 rfl w.heap.size 5 ib (.int .u8 0) 1 Tryd.underlying23 hi hz0 hz1 .i64 .i64 _ s.size rfl rfl rfl (by rw [hz2]; omega) (by simp only [maxLen]; omega) (by omega) ?_; intro w2 hown2 hg2; have hcl2 : ∀ b o, b < w1.heap.size → w2.cell? ⟨b, o, none⟩ = w1.cell? ⟨b, o, none⟩ := fun b o h => World.cell?_of_block (w := w1) (hg2.block b h (by simp)); have y2 : w.heap.size < w2.heap.size := (by have := hg2.size; omega); have y3 : w.heap.size + 1 < w2.heap.size := (by have := hg2.size; omega))
    | (refine ⟨trivial, ?_⟩; gi_at_call 44; refine (callsIn_wide.2 (Pieces_any r _)).mono ?_; rintro e w3 ⟨rfl, rfl⟩))
  have B0 : Blk w2 w.heap.size #[.int .i64 0] 3 := blk_grown (row := none) (Blk.below ((Blk.new w _ _).alloc _) hb1) hg2 (by simp)
  have B1 : Blk w2 (w.heap.size + 1) #[.int .i64 s.size] 3 := blk_grown (row := none) (Blk.below (Blk.new' (by simp) _ _) hb1) hg2 (by simp)
  have hw2 : Below w.heap.size w w2 := Below.grown (show Below w.heap.size w w1 by (repeat (first | (with_reducible exact Below.refl _ _) | (with_reducible assumption) | (with_reducible apply bl_alloc) | (with_reducible apply bl_iter) | (with_reducible apply bl_drew) | (with_reducible apply bl_drewN) | (with_reducible refine bl_set ?_ (by first | assumption | (simp; done) | omega | (simp; omega)) _) | (with_reducible refine bl_then ?_ (by with_reducible assumption))))) hg2 (by omega) (fun k hk => by cases hk)
  have B2 := Blk.new w2 #[.slice (some ⟨w1.heap.size, 0, none⟩) 0 s.size] 23
  have B3 := Blk.new (w2.alloc (.cells #[.slice (some ⟨w1.heap.size, 0, none⟩) 0 s.size] 23)) #[.pointer (some ⟨r, 0, none⟩)] 26
  have B4 := Blk.new ((w2.alloc (.cells #[.slice (some ⟨w1.heap.size, 0, none⟩) 0 s.size] 23)).alloc (.cells #[.pointer (some ⟨r, 0, none⟩)] 26)) #[.int .i64 0] 3
  have B5 := Blk.new (((w2.alloc (.cells #[.slice (some ⟨w1.heap.size, 0, none⟩) 0 s.size] 23)).alloc (.cells #[.pointer (some ⟨r, 0, none⟩)] 26)).alloc (.cells #[.int .i64 0] 3)) #[.bool false] 4
  simp only [World.size_alloc] at B3 B4 B5
  have E0 := (((B0.alloc (.cells #[.slice (some ⟨w1.heap.size, 0, none⟩) 0 s.size] 23)).alloc (.cells #[.pointer (some ⟨r, 0, none⟩)] 26)).alloc (.cells #[.int .i64 0] 3)).alloc (.cells #[.bool false] 4)
  have E1 := (((B1.alloc (.cells #[.slice (some ⟨w1.heap.size, 0, none⟩) 0 s.size] 23)).alloc (.cells #[.pointer (some ⟨r, 0, none⟩)] 26)).alloc (.cells #[.int .i64 0] 3)).alloc (.cells #[.bool false] 4)
  have E2 := ((B2.alloc (.cells #[.pointer (some ⟨r, 0, none⟩)] 26)).alloc (.cells #[.int .i64 0] 3)).alloc (.cells #[.bool false] 4)
  have E3 := (B3.alloc (.cells #[.int .i64 0] 3)).alloc (.cells #[.bool false] 4)
  have E4 := B4.alloc (.cells #[.bool false] 4)
  have E5 := B5
  have hw4 := bl_alloc (bl_alloc (bl_alloc (bl_alloc hw2 (.cells #[.slice (some ⟨w1.heap.size, 0, none⟩) 0 s.size] 23)) (.cells #[.pointer (some ⟨r, 0, none⟩)] 26)) (.cells #[.int .i64 0] 3)) (.cells #[.bool false] 4)
  have hown4 := (((hown2.alloc (.cells #[.slice (some ⟨w1.heap.size, 0, none⟩) 0 s.size] 23)).alloc (.cells #[.pointer (some ⟨r, 0, none⟩)] 26)).alloc (.cells #[.int .i64 0] 3)).alloc (.cells #[.bool false] 4)
  have hgB : w.heap.size + 1 < w2.heap.size := y3
  clear B0 B1 B2 B3 B4 B5 hb1 hcl1 hfr1 hcl2 hown2 hg2 hw2 y0 y1 y2 y3
  generalize ((((w2.alloc (.cells #[.slice (some ⟨w1.heap.size, 0, none⟩) 0 s.size] 23)).alloc (.cells #[.pointer (some ⟨r, 0, none⟩)] 26)).alloc (.cells #[.int .i64 0] 3)).alloc (.cells #[.bool false] 4)) = W4 at *
  generalize w2.heap.size = Bt at *
  generalize w1.heap.size = q1 at *
  refine wpIn_pieces (gf := 64) (lb := #[.pointer (some ⟨Bt + 1, 0, none⟩), .pointer (some ⟨Bt + 1 + 1, 0, none⟩), .pointer (some ⟨Bt + 1 + 1 + 1, 0, none⟩)]) rfl (enters_of Tryd.func64 (by kernel_rfl) rfl) w.heap.size hw4.size L
    (fun l J Jx W hb hJ hR h0 => HPc.out l J Jx hJ hR (6 - 1) W (Bt + 1) (Bt + 1 + 1) (Bt + 1 + 1 + 1) (bl_then hw4 hb) ((E3.below hb).cell 0) ((E4.below hb).cell 0) ((E5.below hb).cell 0) h0)
    (BytesI w s.size Bt) (fun c pre W => c = .exit 0 ∧ BytesI w s.size Bt pre W ∧ pre.flatten = bytesOf s) (bytesI_own w s.size Bt hw4.size) (fun c s' X Y row hs hg hr => ⟨hs.1, bytesI_own w s.size Bt hw4.size s' X Y row hs.2.1 hg hr, hs.2.2⟩)
    ⟨⟨⟨_, E2, hown4, trivial⟩, E0, E1⟩, hw4⟩
    (fun p a' => a' = { tmps := #[.pointer (some ⟨r, 0, none⟩), .int .i64 0, .int .i64 s.size, undef, .pointer (some ⟨w.heap.size, 0, none⟩), .pointer (some ⟨w.heap.size + 1, 0, none⟩), .slice none 0 0, .int .i64 0, .int .i64 0, .pointer (some ⟨Bt, 0, none⟩), .slice p.A p.k p.c, .pointer (some ⟨r, 0, none⟩), .int .i64 s.size, .int .i64 0, .int .i64 0, .bool false, undef, .int .i64 0, .bool false, .bool false, .int .i64 0, .int .i64 s.size, .bool (decide ((s.size : Int) < 0)), .bool (decide ((s.size : Int) < 0)), .int .i64 s.size, .int .i64 0, .int .i64 s.size, .slice (some ⟨q1, 0, none⟩) 0 s.size, .pointer (some ⟨r, 0, none⟩), .int .i64 0, .func (.func 64) #[] #[.pointer (some ⟨Bt + 1, 0, none⟩), .pointer (some ⟨Bt + 1 + 1, 0, none⟩), .pointer (some ⟨Bt + 1 + 1 + 1, 0, none⟩)], .slice p.A p.k p.c, undef, undef, undef, undef, undef, undef, undef, undef, undef, undef, undef, undef, undef, undef, undef, undef, undef, undef, undef, undef, undef], defers := [] })
    ?assign ?body ?done ?stop
  case assign =>
    intro l m p W K hK
    have HK := Lib.hid hK
    clear hK
    dsimp only [Pc.args]
    gi_wp2
    exact HK.out _ rfl
  case body =>
    rintro l m pre ⟨A, k, c, xs⟩ a' W ⟨⟨⟨v, hB, ho, -⟩, hg0, hg1⟩, hbl⟩ ⟨hrd, hpc, hp1⟩ rfl hpre
    dsimp only at hrd hpc hp1 hpre ⊢
    have hxk : xs.length = k := hrd.1
    have hlen : L.flatten.length = s.size := by rw [HL.out, bytesOf_length]
    have hfit := flat_fits hpre
    rw [hlen, hxk] at hfit
    have HW := Lib.hid (flat_whole hpre)
    obtain ⟨ad, rfl, -⟩ := hrd.2.2 (by omega)
    obtain ⟨Av, cv, rfl⟩ := own_slice ho
    have e : (pre ++ [xs]).flatten = pre.flatten ++ xs := by simp
    have hpl : (pre ++ [xs]).flatten.length = pre.flatten.length + k := by rw [e, List.length_append, hxk]
    have c9 : W.cell? ⟨Bt, 0, none⟩ = some (.slice Av pre.flatten.length cv) := hB.cell
    have f9 := hB.frozen
    have c4 : W.cell? ⟨w.heap.size, 0, none⟩ = some (.int .i64 0) := hg0.cell 0
    have c5 : W.cell? ⟨w.heap.size + 1, 0, none⟩ = some (.int .i64 s.size) := hg1.cell 0
    obtain ⟨k1, -⟩ := cut_bytes_to (some ad) k c k (by omega) (by omega) hpc
    simp only [Int.toNat_natCast] at k1
    have HS := Lib.hid (fun w1 v1 => @bytesI_step w W w1 s.size Bt k pre xs (.slice Av pre.flatten.length cv) v1 hxk hB ho hg0 hg1 hbl hgB)
    have HO := Lib.hid ho
    have HR := Lib.hid (nums_cells hrd)
    have hnl : (nums .u8 xs).length = k * 1 := by rw [nums_length, hxk]; omega
    have hbs := hbl.size
    clear hB ho hg0 hg1 hrd hpre e E0 E1 E2 E3 E4 E5 hown4 hw4 HPc
    generalize pre.flatten.length = n at *
    have g3 : IntKind.i64.wrap ((s.size : Int) - n) = (s.size : Int) - n := IntWalk.i64_in _ (by omega)
    have g4 : ¬ (s.size : Int) - n < k := by omega
    have g5 : min (k : Int) ((s.size : Int) - n) = k := by omega
    have n1 : ¬ w.heap.size = Bt := by omega
    have n2 : ¬ w.heap.size + 1 = Bt := by omega
    by_cases hfull : n + k = s.size
    · have g6 : ((n + k : Nat) : Int) = (s.size : Int) := by omega
      have g7 : (n : Int) + (k : Int) = (s.size : Int) := by omega
      gi_wp2_with (gi_at_builtin; refine wpListIn_append_own _ rfl (.tmp 43) (.tmp 44) 23 rfl w.heap.size 5 ib (.int .u8 0) 1 1 Tryd.underlying23 hi hz0 hz1 hz2 rfl (by decide) _ _ _ rfl HO.out ad k c (nums .u8 xs) rfl hnl HR.out (ints_oneCell _ _) (by simp only [maxLen]; omega) (by omega) hbs ?_; intro v1 w1 hown1 hgr1 _; obtain ⟨A1, cc1, rfl⟩ := own_slice hown1; obtain ⟨⟨b1, b2, b3⟩, hX⟩ := HS.out w1 _ hown1 hgr1; have b1c := b1.cell; have b1f := b1.frozen; have HX := Lib.hid hX; clear hX b1 hown1 hgr1)
      have hX := HX.out
      rw [hfull] at hX
      exact ⟨hX.1.from _, rfl, hX.2.2, (HW.out (by rw [hpl, hlen, hfull])).trans HL.out⟩
    · have g6 : ¬ ((n + k : Nat) : Int) = (s.size : Int) := by omega
      have g7 : ¬ (n : Int) + (k : Int) = (s.size : Int) := by omega
      gi_wp2_with (gi_at_builtin; refine wpListIn_append_own _ rfl (.tmp 43) (.tmp 44) 23 rfl w.heap.size 5 ib (.int .u8 0) 1 1 Tryd.underlying23 hi hz0 hz1 hz2 rfl (by decide) _ _ _ rfl HO.out ad k c (nums .u8 xs) rfl hnl HR.out (ints_oneCell _ _) (by simp only [maxLen]; omega) (by omega) hbs ?_; intro v1 w1 hown1 hgr1 _; obtain ⟨A1, cc1, rfl⟩ := own_slice hown1; obtain ⟨⟨b1, b2, b3⟩, hX⟩ := HS.out w1 _ hown1 hgr1; have b1c := b1.cell; have b1f := b1.frozen; have HX := Lib.hid hX; clear hX b1 hown1 hgr1)
      exact ⟨HX.out.1.from _, HX.out.2.1, HX.out.2.2⟩
  case done =>
    rintro D W hD hI hK
    have hfl := HL.out
    have hfl' := hfl
    obtain ⟨⟨⟨v, hB, ho, -⟩, hg0, hg1⟩, hbl⟩ := hI
    rw [hfl, bytesOf_length] at ho
    have hbx := hbl
    obtain ⟨Av, cv, rfl⟩ := own_slice ho
    have c9 : W.cell? ⟨Bt, 0, none⟩ = some (.slice Av s.size cv) := hB.cell
    obtain ⟨A2, c2, e2, hrd⟩ := own_reads ho
    cases e2
    have hle := own_le ho
    have HX := Lib.hid (And.intro hrd (And.intro hle hbl))
    have HK := Lib.hid hK
    clear hB ho hg0 hg1 hbl hbx hrd hle hfl hfl' hK E0 E1 E2 E3 E4 E5 hown4 HPc HL
    gi_wp2
    refine ⟨by simp, .inl ⟨_, _, rfl, run_takeDeferred HK.out, ?_⟩⟩
    refine ⟨_, results_tmp2 rfl _ _ _, ⟨⟨_, _, rfl, HX.out.2.1, reads_turn HX.out.1 _ HK.out rfl⟩, ?_⟩⟩
    exact HX.out.2.2.trans (belowK_b (w := w) (Nat.le_refl _) _ D _ _ (by have := hw4.size; omega) HK.out rfl rfl)
  case stop =>
    rintro D c pre W hD ⟨rfl, hI, hfl⟩ hK
    have hfl' := hfl
    obtain ⟨⟨⟨v, hB, ho, -⟩, hg0, hg1⟩, hbl⟩ := hI
    rw [hfl, bytesOf_length] at ho
    have hbx := hbl
    obtain ⟨Av, cv, rfl⟩ := own_slice ho
    have c9 : W.cell? ⟨Bt, 0, none⟩ = some (.slice Av s.size cv) := hB.cell
    obtain ⟨A2, c2, e2, hrd⟩ := own_reads ho
    cases e2
    have hle := own_le ho
    have HX := Lib.hid (And.intro hrd (And.intro hle hbl))
    have HK := Lib.hid hK
    clear hB ho hg0 hg1 hbl hbx hrd hle hfl hfl' hK E0 E1 E2 E3 E4 E5 hown4 HPc HL
    gi_wp2
    refine ⟨by simp, .inl ⟨_, _, rfl, run_takeDeferred HK.out, ?_⟩⟩
    refine ⟨_, results_tmp2 rfl _ _ _, ⟨⟨_, _, rfl, HX.out.2.1, reads_turn HX.out.1 _ HK.out rfl⟩, ?_⟩⟩
    exact HX.out.2.2.trans (belowK_b (w := w) (Nat.le_refl _) _ D _ _ (by have := hw4.size; omega) HK.out rfl rfl)
end Go.Proofs.YtcjplgcnjfinoaaDoor
