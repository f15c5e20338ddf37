/- Contract of weld.Valid at a short measure, exact. Conditions: the tables hold what their text lays. -/
import Derived.Test.YtcjplgcnjfinoaaDoorWeldB
import Derived.Test.YtcjplgcnjfinoaaDoorWEqStruct
namespace Go.Proofs.YtcjplgcnjfinoaaDoor
open Go.RowKit Go.Shelf Go.Proofs.YtcjplgcnjfinoaaDoorW.PrintWords Go.Proofs.YtcjplgcnjfinoaaDoorW.PrintMore
attribute [local go_sem] max2_int min2_int max_two min_two

theorem strOfNums_bytesOf (s : ByteArray) : strOfNums (bytesOf s) = s := by
  have : (strOfNums (bytesOf s)).data.toList = s.data.toList := by
    rw [strOfNums_data, bytesOf, List.map_map]
    conv => rhs; rw [← List.map_id s.data.toList]
    apply List.map_congr_left
    intro b _
    simp
  cases s with
  | mk d =>
    have h : (strOfNums (bytesOf ⟨d⟩)).data = d := by
      apply Array.toList_inj.1
      exact this
    cases h' : strOfNums (bytesOf ⟨d⟩) with
    | mk d' => rw [h'] at h; simp only at h; rw [h]

/-- Are two measures alike? -/
def Wd.same (x y : Wd) : Bool := (x.b == y.b && (x.r == y.r && (x.u == y.u && (x.e == y.e)))) && (x.hd.toList == y.hd.toList && (x.tl.toList == y.tl.toList))
def Wd.shortB (x : Wd) : Bool := x.fine && x.same (ofW (bytesOf x.shortS))
theorem bytesWorld_Blk {W : World} {b : Nat} {cs : Array Value} {t : TypeId} (h : Blk W b cs t) (e : TypeId) (s : ByteArray) : Blk (Lib.bytesWorld W e s) b cs t := (Lib.bytesWorld_at_old W e s b h.lt).trans h
theorem vS_bytes {w W : World} {b : Nat} {cs : Array Value} {t : TypeId} (h : Blk W b cs t) (hb : Below w.heap.size w W) (s : ByteArray) :
    Blk (Lib.bytesWorld W 5 s) b cs t ∧ (∀ i, (Lib.bytesWorld W 5 s).cell? ⟨b, i, none⟩ = cs[i]?) ∧ Below w.heap.size w (Lib.bytesWorld W 5 s) :=
  ⟨bytesWorld_Blk h _ s, (bytesWorld_Blk h _ s).cell, bytes_below hb hb.size _ s⟩

theorem eqSizes (d : Nat) (w : World) (x0 y0 x1 y1 x2 y2 x3 y3 : Int) :
    (Op.equalIn (d + 2) 127 (.agg #[.int .i64 x0, .int .i64 x1, .int .i64 x2, .int .i64 x3]) (.agg #[.int .i64 y0, .int .i64 y1, .int .i64 y2, .int .i64 y3])).run Tryd.prog w = .ok (x0 == y0 && (x1 == y1 && (x2 == y2 && (x3 == y3)))) w := by
  refine eqA_of Tryd.underlying127 (by kernel_rfl) ?_
  refine eqf_cons (by rfl) (by go_simp; rfl) (by go_simp; rfl) (by go_simp) ?_
  refine eqf_cons (by rfl) (by go_simp; rfl) (by go_simp; rfl) (by go_simp) ?_
  refine eqf_cons (by rfl) (by go_simp; rfl) (by go_simp; rfl) (by go_simp) ?_
  exact eqf_last (by rfl) (by go_simp; rfl) (by go_simp; rfl) (by go_simp)
theorem eqWeld (d : Nat) (w : World) (x0 y0 x1 y1 x2 y2 x3 y3 : Int) (h h' k k' : ByteArray) :
    (Op.equalIn (d + 3) 129 (.agg #[.int .i64 x0, .int .i64 x1, .int .i64 x2, .int .i64 x3, .string h, .string k]) (.agg #[.int .i64 y0, .int .i64 y1, .int .i64 y2, .int .i64 y3, .string h', .string k'])).run Tryd.prog w =
      .ok ((x0 == y0 && (x1 == y1 && (x2 == y2 && (x3 == y3)))) && (h.toList == h'.toList && (k.toList == k'.toList))) w := by
  refine eqA_of Tryd.underlying129 (by kernel_rfl) ?_
  refine eqf_cons (by rfl) (by go_simp) (by go_simp) (eqSizes d w x0 y0 x1 y1 x2 y2 x3 y3) ?_
  refine eqf_cons (by rfl) (by go_simp; rfl) (by go_simp; rfl) (by go_simp) ?_
  exact eqf_last (by rfl) (by go_simp; rfl) (by go_simp; rfl) (by go_simp)
attribute [local go_sem high] eqWeld

set_option maxRecDepth 100000 in
set_option maxHeartbeats 1000000 in
theorem Valid_short (x : Wd) (hx : x.ends) (h6 : x.b ≤ 6) (w : World) (he : Env w) :
    Calls Tryd.prog 95 #[.agg #[.int .i64 x.b, .int .i64 x.r, .int .i64 x.u, .int .i64 x.e, .string x.hd, .string x.tl]] w fun e w' => e = .returned (.bool x.shortB) ∧ Below w.heap.size w w' := by
  have hS := fun w => short_any x hx h6 w
  obtain ⟨h0, h1, h2, h3⟩ := hx
  have hm : ∃ m : Int, min 3 x.b = m ∧ (if x.b < 3 then x.b else 3) = m := ⟨min 3 x.b, rfl, by split <;> omega⟩
  obtain ⟨m, e1, e2⟩ := hm
  have d2 : ((x.hd.size : Int) != m) = false := by rw [bne_eq_false_iff_eq, ← e1]; exact h2
  have d3 : ((x.tl.size : Int) != m) = false := by rw [bne_eq_false_iff_eq, ← e1]; exact h3
  have hsz : x.shortS.size ≤ 6 := by
    unfold Wd.shortS
    split
    · rw [ByteArray.size_append, ByteArray.size_extract]
      have : x.over = (x.hd.size + x.tl.size - x.b).toNat := rfl
      omega
    · exact Nat.zero_le _
  have HE := Lib.hid he
  clear e1 h2 h3 he
  unfold Wd.shortB
  cases hf : x.fine
  · rw [hf] at hS
    rw [Bool.false_and]
    clear hf
    go_enter Tryd.func95, Tryd.ntmps95
    go_wp2_with (go_at_call 101; refine (hS _).mono ?_; rintro e w1 ⟨rfl, hb1⟩)
    go_quiet (fail)
    go_wp2
    go_ret
    exact ⟨rfl, by (repeat (first | (with_reducible exact Below.refl _ _) | (with_reducible assumption) | (with_reducible apply bl_alloc) | (with_reducible apply bl_iter) | (with_reducible apply bl_drew) | (with_reducible apply bl_drewN) | (with_reducible refine bl_set ?_ (by first | assumption | (simp; done) | omega | (simp; omega)) _) | (with_reducible refine bl_then ?_ (by with_reducible assumption))))⟩
  · rw [hf] at hS
    rw [Bool.true_and]
    clear hf
    generalize x.shortS = s at *
    have kb := string_bytes s
    go_enter Tryd.func95, Tryd.ntmps95
    go_wp2_with (go_at_call 101; refine (hS _).mono ?_; rintro e w1 ⟨rfl, hb1⟩)
    have hb0 : Below w.heap.size w w1.drew := by (repeat (first | (with_reducible exact Below.refl _ _) | (with_reducible assumption) | (with_reducible apply bl_alloc) | (with_reducible apply bl_iter) | (with_reducible apply bl_drew) | (with_reducible apply bl_drewN) | (with_reducible refine bl_set ?_ (by first | assumption | (simp; done) | omega | (simp; omega)) _) | (with_reducible refine bl_then ?_ (by with_reducible assumption))))
    have hk0 : Blk w1.drew w.heap.size #[.int .i64 x.b, .int .i64 x.r, .int .i64 x.u, .int .i64 x.e, .string x.hd, .string x.tl] 129 := Blk.drew (Blk.below (Blk.alloc (Blk.new w #[.int .i64 x.b, .int .i64 x.r, .int .i64 x.u, .int .i64 x.e, .string x.hd, .string x.tl] 129) _) hb1)
    have hc0 : w1.cell? ⟨w.heap.size, 0, none⟩ = some (.int .i64 x.b) := hk0.cell 0
    have hc1 : w1.cell? ⟨w.heap.size, 1, none⟩ = some (.int .i64 x.r) := hk0.cell 1
    have hc2 : w1.cell? ⟨w.heap.size, 2, none⟩ = some (.int .i64 x.u) := hk0.cell 2
    have hc3 : w1.cell? ⟨w.heap.size, 3, none⟩ = some (.int .i64 x.e) := hk0.cell 3
    have hc4 : w1.cell? ⟨w.heap.size, 4, none⟩ = some (.string x.hd) := hk0.cell 4
    have hc5 : w1.cell? ⟨w.heap.size, 5, none⟩ = some (.string x.tl) := hk0.cell 5
    have hsz0 : w.heap.size < w1.heap.size := hk0.lt
    have hsz1 : w.heap.size < w1.heap.size + 1 := Nat.lt_succ_of_lt hk0.lt
    have hd0 : (Lib.bytesWorld w1.drew 5 s).cell? ⟨w.heap.size, 0, none⟩ = some (.int .i64 x.b) := (Lib.bytesWorld_old w1.drew 5 s ⟨w.heap.size, 0, none⟩ hsz0).trans hc0
    have hd1 : (Lib.bytesWorld w1.drew 5 s).cell? ⟨w.heap.size, 1, none⟩ = some (.int .i64 x.r) := (Lib.bytesWorld_old w1.drew 5 s ⟨w.heap.size, 1, none⟩ hsz0).trans hc1
    have hd2 : (Lib.bytesWorld w1.drew 5 s).cell? ⟨w.heap.size, 2, none⟩ = some (.int .i64 x.u) := (Lib.bytesWorld_old w1.drew 5 s ⟨w.heap.size, 2, none⟩ hsz0).trans hc2
    have hd3 : (Lib.bytesWorld w1.drew 5 s).cell? ⟨w.heap.size, 3, none⟩ = some (.int .i64 x.e) := (Lib.bytesWorld_old w1.drew 5 s ⟨w.heap.size, 3, none⟩ hsz0).trans hc3
    have hd4 : (Lib.bytesWorld w1.drew 5 s).cell? ⟨w.heap.size, 4, none⟩ = some (.string x.hd) := (Lib.bytesWorld_old w1.drew 5 s ⟨w.heap.size, 4, none⟩ hsz0).trans hc4
    have hd5 : (Lib.bytesWorld w1.drew 5 s).cell? ⟨w.heap.size, 5, none⟩ = some (.string x.tl) := (Lib.bytesWorld_old w1.drew 5 s ⟨w.heap.size, 5, none⟩ hsz0).trans hc5
    have hbW := bytes_below hb0 hb0.size 5 s
    have hO : Calls Tryd.prog 79 #[.slice (some ⟨w1.heap.size, 0, none⟩) s.size (grownCap w1.drew s.size 0 5)] (Lib.bytesWorld w1.drew 5 s) _ := Of_any (some ⟨w1.drew.heap.size, 0, none⟩) s.size (grownCap w1.drew s.size 0 5) (bytesOf s) (Lib.bytesWorld w1.drew 5 s) (HE.out.below hbW) (bytes_reads w1.drew 5 s (by omega)) (grownCap_ge _ _ _ _) (by omega)
    have hszW : (Lib.bytesWorld w1.drew 5 s).heap.size = w1.heap.size + 1 := Lib.bytesWorld_size _ _ _
    clear hb1 hS hk0
    go_region_with (go_at_call 79; refine hO.mono ?_; rintro e w2 ⟨rfl, hb2⟩; obtain ⟨hcl, hfr⟩ := bcell hb2)
    all_goals go_wp2
    all_goals go_ret
    all_goals exact ⟨rfl, bl_then (bl_then hbW (by with_reducible exact Below.refl _ _)) (by with_reducible assumption)⟩
end Go.Proofs.YtcjplgcnjfinoaaDoor
