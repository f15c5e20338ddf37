/- Contracts of the methods of package rope's nodes, exact. -/
import Derived.Test.YtcjplgcnjfinoaaDoorRope
namespace Go.Proofs.YtcjplgcnjfinoaaDoor
open Go.RowKit Go.Shelf Go.Proofs.YtcjplgcnjfinoaaDoorW.PrintWords Go.Proofs.YtcjplgcnjfinoaaDoorW.PrintMore
attribute [local go_sem] max2_int min2_int max_two min_two

theorem tipSize_any (l : Nat) (s : ByteArray) (w : World) (h : LeafAt w l s) :
    Calls Tryd.prog 126 #[.agg #[.pointer (some ⟨l, 0, none⟩)]] w fun e w' => e = .returned (.int .i64 s.size) ∧ Below w.heap.size w w' := by
  have HL := Lib.hid h
  clear h
  go_enter Tryd.func126, Tryd.ntmps126
  go_wp2_with (go_at_call 68; refine (leafLen_any _ _ _ (HL.out.below (by (repeat (first | (with_reducible exact Below.refl _ _) | (with_reducible assumption) | (with_reducible apply bl_alloc) | (with_reducible apply bl_iter) | (with_reducible apply bl_drew) | (with_reducible apply bl_drewN) | (with_reducible refine bl_set ?_ (by first | assumption | (simp; done) | omega | (simp; omega)) _) | (with_reducible refine bl_then ?_ (by with_reducible assumption))))))).mono ?_; rintro e w' ⟨rfl, rfl⟩)
  go_ret
  exact ⟨rfl, by (repeat (first | (with_reducible exact Below.refl _ _) | (with_reducible assumption) | (with_reducible apply bl_alloc) | (with_reducible apply bl_iter) | (with_reducible apply bl_drew) | (with_reducible apply bl_drewN) | (with_reducible refine bl_set ?_ (by first | assumption | (simp; done) | omega | (simp; omega)) _) | (with_reducible refine bl_then ?_ (by with_reducible assumption))))⟩
theorem tipHeight_any (v : Value) (w : World) :
    Calls Tryd.prog 125 #[.agg #[v]] w fun e w' => e = .returned (.int .i64 1) ∧ Below w.heap.size w w' := by
  go_enter Tryd.func125, Tryd.ntmps125
  go_wp2
  go_ret
  exact ⟨rfl, by (repeat (first | (with_reducible exact Below.refl _ _) | (with_reducible assumption) | (with_reducible apply bl_alloc) | (with_reducible apply bl_iter) | (with_reducible apply bl_drew) | (with_reducible apply bl_drewN) | (with_reducible refine bl_set ?_ (by first | assumption | (simp; done) | omega | (simp; omega)) _) | (with_reducible refine bl_then ?_ (by with_reducible assumption))))⟩
theorem tipWeld_any (l : Nat) (s : ByteArray) (w : World) (h : LeafAt w l s) :
    Calls Tryd.prog 127 #[.agg #[.pointer (some ⟨l, 0, none⟩)]] w fun e w' => e = .returned (.agg #[.int .i64 (mOf s).b, .int .i64 (mOf s).r, .int .i64 (mOf s).u, .int .i64 (mOf s).e, .string (mOf s).hd, .string (mOf s).tl]) ∧ Below w.heap.size w w' := by
  have HL := Lib.hid h
  clear h
  go_enter Tryd.func127, Tryd.ntmps127
  go_wp2_with (go_at_call 128; refine (leafWeld_any _ _ _ (HL.out.below (by (repeat (first | (with_reducible exact Below.refl _ _) | (with_reducible assumption) | (with_reducible apply bl_alloc) | (with_reducible apply bl_iter) | (with_reducible apply bl_drew) | (with_reducible apply bl_drewN) | (with_reducible refine bl_set ?_ (by first | assumption | (simp; done) | omega | (simp; omega)) _) | (with_reducible refine bl_then ?_ (by with_reducible assumption))))))).mono ?_; rintro e w1 ⟨rfl, hb1⟩; obtain ⟨hcl, hfr⟩ := bcell hb1)
  exact bodyPost_ret (by simp [results, Tryd.results127, go_sem, *]) rfl ⟨rfl, by (repeat (first | (with_reducible exact Below.refl _ _) | (with_reducible assumption) | (with_reducible apply bl_alloc) | (with_reducible apply bl_iter) | (with_reducible apply bl_drew) | (with_reducible apply bl_drewN) | (with_reducible refine bl_set ?_ (by first | assumption | (simp; done) | omega | (simp; omega)) _) | (with_reducible refine bl_then ?_ (by with_reducible assumption))))⟩
/-- A fork's cells. -/
def forkC (va vb : Value) (n h : Nat) (m : Wd) : Array Value := #[va, vb, .int .i64 n, .int .i64 h, .int .i64 m.b, .int .i64 m.r, .int .i64 m.u, .int .i64 m.e, .string m.hd, .string m.tl]
theorem forkSize_any (p : Nat) (va vb : Value) (n h : Nat) (m : Wd) (w : World) (hp : Blk w p (forkC va vb n h m) 131) :
    Calls Tryd.prog 130 #[.pointer (some ⟨p, 0, none⟩)] w fun e w' => e = .returned (.int .i64 n) ∧ Below w.heap.size w w' := by
  have c2 : w.cell? ⟨p, 2, none⟩ = some (.int .i64 n) := hp.cell 2
  go_enter Tryd.func130, Tryd.ntmps130
  go_wp2
  go_ret
  exact ⟨rfl, by (repeat (first | (with_reducible exact Below.refl _ _) | (with_reducible assumption) | (with_reducible apply bl_alloc) | (with_reducible apply bl_iter) | (with_reducible apply bl_drew) | (with_reducible apply bl_drewN) | (with_reducible refine bl_set ?_ (by first | assumption | (simp; done) | omega | (simp; omega)) _) | (with_reducible refine bl_then ?_ (by with_reducible assumption))))⟩
theorem forkHeight_any (p : Nat) (va vb : Value) (n h : Nat) (m : Wd) (w : World) (hp : Blk w p (forkC va vb n h m) 131) :
    Calls Tryd.prog 129 #[.pointer (some ⟨p, 0, none⟩)] w fun e w' => e = .returned (.int .i64 h) ∧ Below w.heap.size w w' := by
  have c2 : w.cell? ⟨p, 3, none⟩ = some (.int .i64 h) := hp.cell 3
  go_enter Tryd.func129, Tryd.ntmps129
  go_wp2
  go_ret
  exact ⟨rfl, by (repeat (first | (with_reducible exact Below.refl _ _) | (with_reducible assumption) | (with_reducible apply bl_alloc) | (with_reducible apply bl_iter) | (with_reducible apply bl_drew) | (with_reducible apply bl_drewN) | (with_reducible refine bl_set ?_ (by first | assumption | (simp; done) | omega | (simp; omega)) _) | (with_reducible refine bl_then ?_ (by with_reducible assumption))))⟩
theorem forkWeld_any (p : Nat) (va vb : Value) (n h : Nat) (m : Wd) (w : World) (hp : Blk w p (forkC va vb n h m) 131) :
    Calls Tryd.prog 131 #[.pointer (some ⟨p, 0, none⟩)] w fun e w' => e = .returned (.agg #[.int .i64 m.b, .int .i64 m.r, .int .i64 m.u, .int .i64 m.e, .string m.hd, .string m.tl]) ∧ Below w.heap.size w w' := by
  have c4 : w.cell? ⟨p, 4, none⟩ = some (.int .i64 m.b) := hp.cell 4
  have c5 : w.cell? ⟨p, 5, none⟩ = some (.int .i64 m.r) := hp.cell 5
  have c6 : w.cell? ⟨p, 6, none⟩ = some (.int .i64 m.u) := hp.cell 6
  have c7 : w.cell? ⟨p, 7, none⟩ = some (.int .i64 m.e) := hp.cell 7
  have c8 : w.cell? ⟨p, 8, none⟩ = some (.string m.hd) := hp.cell 8
  have c9 : w.cell? ⟨p, 9, none⟩ = some (.string m.tl) := hp.cell 9
  have hl := hp.lt
  have hn : ¬ p = w.heap.size := by omega
  have hn' : ¬ w.heap.size = p := by omega
  go_enter Tryd.func131, Tryd.ntmps131
  go_wp2
  exact bodyPost_ret (by simp [results, Tryd.results131, go_sem, *]) rfl ⟨rfl, by (repeat (first | (with_reducible exact Below.refl _ _) | (with_reducible assumption) | (with_reducible apply bl_alloc) | (with_reducible apply bl_iter) | (with_reducible apply bl_drew) | (with_reducible apply bl_drewN) | (with_reducible refine bl_set ?_ (by first | assumption | (simp; done) | omega | (simp; omega)) _) | (with_reducible refine bl_then ?_ (by with_reducible assumption))))⟩

/-- How a node's methods are reached, and what they answer, at every world beyond W. -/
structure NodeFns (W : World) (v : Value) (n h : Nat) (m : Wd) (T : TypeId) (rv : Value) (fS fW fH : Nat) : Prop where
  val : v = .iface T rv
  mS : ∀ w, Sem.run Tryd.prog (method 292 T rv "galley/rope.size") w = .ok (fS, rv) w
  mW : ∀ w, Sem.run Tryd.prog (method 292 T rv "galley/rope.weld") w = .ok (fW, rv) w
  mH : ∀ w, Sem.run Tryd.prog (method 292 T rv "galley/rope.height") w = .ok (fH, rv) w
  eS : ∀ xs w, (callFunc fS xs).run Tryd.prog w = .ok (.enter fS xs) w
  eW : ∀ xs w, (callFunc fW xs).run Tryd.prog w = .ok (.enter fW xs) w
  eH : ∀ xs w, (callFunc fH xs).run Tryd.prog w = .ok (.enter fH xs) w
  cS : ∀ w, Below W.heap.size W w → Calls Tryd.prog fS #[rv] w fun e w' => e = .returned (.int .i64 n) ∧ Below w.heap.size w w'
  cW : ∀ w, Below W.heap.size W w → Calls Tryd.prog fW #[rv] w fun e w' => e = .returned (.agg #[.int .i64 m.b, .int .i64 m.r, .int .i64 m.u, .int .i64 m.e, .string m.hd, .string m.tl]) ∧ Below w.heap.size w w'
  cH : ∀ w, Below W.heap.size W w → Calls Tryd.prog fH #[rv] w fun e w' => e = .returned (.int .i64 h) ∧ Below w.heap.size w w'
theorem IsNode.fns {W : World} : ∀ {T : RT} {v : Value}, IsNode W v T → ∃ (t : TypeId) (rv : Value) (fS fW fH : Nat), NodeFns W v T.bytes.size T.high T.meas t rv fS fW fH
  | .tip s, _, ⟨l, h1, h2⟩ => ⟨_, _, _, _, _, ⟨h1, tipSize _, tipWeld _, tipHeight _, enterTS, enterTW, enterTH, fun w hb => tipSize_any l s w (h2.below hb), fun w hb => tipWeld_any l s w (h2.below hb), fun w _ => tipHeight_any _ w⟩⟩
  | .fork a b, _, ⟨p, va, vb, h1, h2, _, _⟩ => ⟨_, _, _, _, _, ⟨h1, forkSize _, forkWeld _, forkHeight _, enterFS, enterFW, enterFH, fun w hb => forkSize_any p va vb _ (RT.fork a b).high (RT.fork a b).meas w (h2.below hb), fun w hb => forkWeld_any p va vb (RT.fork a b).bytes.size (RT.fork a b).high _ w (h2.below hb), fun w hb => forkHeight_any p va vb (RT.fork a b).bytes.size _ (RT.fork a b).meas w (h2.below hb)⟩⟩
end Go.Proofs.YtcjplgcnjfinoaaDoor
