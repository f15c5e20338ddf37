/- Contracts of package leaf's functions, exact: made, Len, Weld, Bytes, Join. Conditions: the tables hold what their text lays. -/
import Derived.Test.YtcjplgcnjfinoaaDoorWeldC
namespace Go.Proofs.YtcjplgcnjfinoaaDoor
open Go.RowKit Go.Shelf Go.Proofs.YtcjplgcnjfinoaaDoorW.PrintWords Go.Proofs.YtcjplgcnjfinoaaDoorW.PrintMore
attribute [local go_sem] max2_int min2_int max_two min_two

/-- The measure of a text. -/
def mOf (s : ByteArray) : Wd := ofW (bytesOf s)
/-- A leaf's cells. -/
def leafC (s : ByteArray) : Array Value := #[.string s, .int .i64 (mOf s).b, .int .i64 (mOf s).r, .int .i64 (mOf s).u, .int .i64 (mOf s).e, .string (mOf s).hd, .string (mOf s).tl]
/-- A leaf with the text s lies at l. -/
def LeafAt (W : World) (l : Nat) (s : ByteArray) : Prop := Blk W l (leafC s) 142
theorem LeafAt.below {W W' : World} {l : Nat} {s : ByteArray} (h : LeafAt W l s) (hb : Below W.heap.size W W') : LeafAt W' l s := Blk.below h hb
theorem LeafAt.lt {W : World} {l : Nat} {s : ByteArray} (h : LeafAt W l s) : l < W.heap.size := Blk.lt h

set_option maxRecDepth 100000 in
set_option maxHeartbeats 1000000 in
theorem made_any (s : ByteArray) (hs : s.size ≤ 268435456) (w : World) (he : Env w) :
    Calls Tryd.prog 67 #[.string s] w fun e w' => ∃ l, (e = .returned (.pointer (some ⟨l, 0, none⟩)) ∧ w.heap.size ≤ l ∧ LeafAt w' l s) ∧ Below w.heap.size w w' := by
  have kb := string_bytes s
  have HE := Lib.hid he
  have hbW := bytes_below (Below.refl w.heap.size w) (Nat.le_refl _) 5 s
  have hO : Calls Tryd.prog 79 #[.slice (some ⟨w.heap.size, 0, none⟩) s.size (grownCap w s.size 0 5)] (Lib.bytesWorld w 5 s) _ := Of_any (some ⟨w.heap.size, 0, none⟩) s.size (grownCap w s.size 0 5) (bytesOf s) (Lib.bytesWorld w 5 s) (he.below hbW) (bytes_reads w 5 s (by omega)) (grownCap_ge _ _ _ _) hs
  clear he
  go_enter Tryd.func67, Tryd.ntmps67
  go_wp2_with (go_at_call 79; refine hO.mono ?_; clear hO; rintro e w2 ⟨rfl, hb2⟩)
  have hz := hb2.size
  have hz2 := Lib.bytesWorld_size w 5 s
  have hb3 : Below w.heap.size w w2 := bl_then hbW hb2
  go_ret
  exact ⟨w2.heap.size, ⟨rfl, by omega, Blk.new w2 _ _⟩, by (repeat (first | (with_reducible exact Below.refl _ _) | (with_reducible assumption) | (with_reducible apply bl_alloc) | (with_reducible apply bl_iter) | (with_reducible apply bl_drew) | (with_reducible apply bl_drewN) | (with_reducible refine bl_set ?_ (by first | assumption | (simp; done) | omega | (simp; omega)) _) | (with_reducible refine bl_then ?_ (by with_reducible assumption))))⟩

theorem leafLen_any (l : Nat) (s : ByteArray) (w : World) (h : LeafAt w l s) :
    Calls Tryd.prog 68 #[.pointer (some ⟨l, 0, none⟩)] w fun e w' => e = .returned (.int .i64 s.size) ∧ w = w' := by
  have c0 : w.cell? ⟨l, 0, none⟩ = some (.string s) := Blk.cell h 0
  go_enter Tryd.func68, Tryd.ntmps68
  go_wp2
  go_ret
  exact ⟨rfl, rfl⟩
theorem leafWeld_any (l : Nat) (s : ByteArray) (w : World) (h : LeafAt w l s) :
    Calls Tryd.prog 128 #[.pointer (some ⟨l, 0, none⟩)] w fun e w' => e = .returned (.agg #[.int .i64 (mOf s).b, .int .i64 (mOf s).r, .int .i64 (mOf s).u, .int .i64 (mOf s).e, .string (mOf s).hd, .string (mOf s).tl]) ∧ Below w.heap.size w w' := by
  have c1 : w.cell? ⟨l, 1, none⟩ = some (.int .i64 (mOf s).b) := Blk.cell h 1
  have c2 : w.cell? ⟨l, 2, none⟩ = some (.int .i64 (mOf s).r) := Blk.cell h 2
  have c3 : w.cell? ⟨l, 3, none⟩ = some (.int .i64 (mOf s).u) := Blk.cell h 3
  have c4 : w.cell? ⟨l, 4, none⟩ = some (.int .i64 (mOf s).e) := Blk.cell h 4
  have c5 : w.cell? ⟨l, 5, none⟩ = some (.string (mOf s).hd) := Blk.cell h 5
  have c6 : w.cell? ⟨l, 6, none⟩ = some (.string (mOf s).tl) := Blk.cell h 6
  have hl := h.lt
  have hn : ¬ l = w.heap.size := by omega
  have hn' : ¬ w.heap.size = l := by omega
  go_enter Tryd.func128, Tryd.ntmps128
  go_wp2
  exact bodyPost_ret (by simp [results, Tryd.results128, go_sem, *]) rfl ⟨rfl, by (repeat (first | (with_reducible exact Below.refl _ _) | (with_reducible assumption) | (with_reducible apply bl_alloc) | (with_reducible apply bl_iter) | (with_reducible apply bl_drew) | (with_reducible apply bl_drewN) | (with_reducible refine bl_set ?_ (by first | assumption | (simp; done) | omega | (simp; omega)) _) | (with_reducible refine bl_then ?_ (by with_reducible assumption))))⟩
theorem leafBytes_any (l : Nat) (s : ByteArray) (w : World) (h : LeafAt w l s) (hs : s.size ≤ 268435456) :
    Calls Tryd.prog 78 #[.pointer (some ⟨l, 0, none⟩)] w fun e w' => (∃ c, e = .returned (.slice (some ⟨w.heap.size, 0, none⟩) s.size c) ∧ s.size ≤ c ∧ ReadsInt w' .u8 (some ⟨w.heap.size, 0, none⟩) s.size (bytesOf s)) ∧ Below w.heap.size w w' := by
  have c0 : w.cell? ⟨l, 0, none⟩ = some (.string s) := Blk.cell h 0
  have kb := string_bytes s
  go_enter Tryd.func78, Tryd.ntmps78
  go_wp2
  go_ret
  exact ⟨⟨_, rfl, grownCap_ge _ _ _ _, bytes_reads w 5 s (by omega)⟩, bytes_below (Below.refl w.heap.size w) (Nat.le_refl _) 5 s⟩
set_option maxRecDepth 100000 in
set_option maxHeartbeats 1000000 in
theorem leafJoin_any (l m : Nat) (s t : ByteArray) (w : World) (he : Env w) (h : LeafAt w l s) (k : LeafAt w m t) (hst : s.size + t.size ≤ 4096) :
    Calls Tryd.prog 70 #[.pointer (some ⟨l, 0, none⟩), .pointer (some ⟨m, 0, none⟩)] w fun e w' => ∃ n, (e = .returned (.tuple #[.pointer (some ⟨n, 0, none⟩), .int .i64 0]) ∧ w.heap.size ≤ n ∧ LeafAt w' n (s ++ t)) ∧ Below w.heap.size w w' := by
  have c0 : w.cell? ⟨l, 0, none⟩ = some (.string s) := Blk.cell h 0
  have d0 : w.cell? ⟨m, 0, none⟩ = some (.string t) := Blk.cell k 0
  have c1 : w.drew.cell? ⟨l, 0, none⟩ = some (.string s) := c0
  have d1 : w.drew.cell? ⟨m, 0, none⟩ = some (.string t) := d0
  have hno : ¬ 9223372036854775807 < s.size + t.size := by omega
  have hle : ¬ (4096 : Int) < (s.size : Int) + t.size := by omega
  have hs : s.size ≤ 4096 := by omega
  have ht : t.size ≤ 4096 := by omega
  have L1 : l < w.drew.heap.size := h.lt
  have L2 : m < w.drew.heap.size := k.lt
  have H1 := Lib.hid h
  have H2 := Lib.hid k
  have hM := made_any (s ++ t) (by rw [ByteArray.size_append]; omega) w.drew (he.below (Below.refl _ _).drew)
  clear h k he hst
  go_enter Tryd.func70, Tryd.ntmps70
  go_wp2_with (first | (go_at_call 68; refine (leafLen_any _ _ _ H1.out).mono ?_; clear H1; rintro e w' ⟨rfl, rfl⟩) | (go_at_call 68; refine (leafLen_any _ _ _ H2.out).mono ?_; rintro e w' ⟨rfl, rfl⟩))
  go_region_held3 (fun W => W.cell? ⟨l, 0, none⟩ = some (.string s) ∧ W.cell? ⟨m, 0, none⟩ = some (.string t)) (first | (with_reducible exact ⟨c1, d1⟩) | (with_reducible exact ⟨(hcl l 0 L1).trans c1, (hcl m 0 L2).trans d1⟩)) ((go_at_call 67; refine hM.mono ?_; clear hM; rintro e w2 ⟨n, ⟨rfl, hn1, hn2⟩, hb2⟩; obtain ⟨hcl, hfr⟩ := bcell hb2))
  all_goals go_wp2
  go_ret2
  exact ⟨n, ⟨rfl, hn1, hn2⟩, bl_then (Below.refl w.heap.size w).drew hb2⟩
end Go.Proofs.YtcjplgcnjfinoaaDoor
