/- Trees of package rope: how their methods are reached. -/
import Derived.Test.YtcjplgcnjfinoaaDoorLeaf
import Derived.Test.YtcjplgcnjfinoaaDoorWeldE
namespace Go.Proofs.YtcjplgcnjfinoaaDoor
open Go.RowKit Go.Shelf Go.Proofs.YtcjplgcnjfinoaaDoorW.PrintWords Go.Proofs.YtcjplgcnjfinoaaDoorW.PrintMore
attribute [local go_sem] max2_int min2_int max_two min_two

theorem tipSize (rv : Value) (w : World) : Sem.run Tryd.prog (method 292 124 rv "galley/rope.size") w = .ok (126, rv) w := by kernel_rfl
theorem tipWeld (rv : Value) (w : World) : Sem.run Tryd.prog (method 292 124 rv "galley/rope.weld") w = .ok (127, rv) w := by kernel_rfl
theorem tipHeight (rv : Value) (w : World) : Sem.run Tryd.prog (method 292 124 rv "galley/rope.height") w = .ok (125, rv) w := by kernel_rfl
theorem forkSize (rv : Value) (w : World) : Sem.run Tryd.prog (method 292 125 rv "galley/rope.size") w = .ok (130, rv) w := by kernel_rfl
theorem forkWeld (rv : Value) (w : World) : Sem.run Tryd.prog (method 292 125 rv "galley/rope.weld") w = .ok (131, rv) w := by kernel_rfl
theorem forkHeight (rv : Value) (w : World) : Sem.run Tryd.prog (method 292 125 rv "galley/rope.height") w = .ok (129, rv) w := by kernel_rfl
theorem enterTS (xs : Array Value) (w : World) : (callFunc 126 xs).run Tryd.prog w = .ok (.enter 126 xs) w := by kernel_rfl
theorem enterTW (xs : Array Value) (w : World) : (callFunc 127 xs).run Tryd.prog w = .ok (.enter 127 xs) w := by kernel_rfl
theorem enterTH (xs : Array Value) (w : World) : (callFunc 125 xs).run Tryd.prog w = .ok (.enter 125 xs) w := by kernel_rfl
theorem enterFS (xs : Array Value) (w : World) : (callFunc 130 xs).run Tryd.prog w = .ok (.enter 130 xs) w := by kernel_rfl
theorem enterFW (xs : Array Value) (w : World) : (callFunc 131 xs).run Tryd.prog w = .ok (.enter 131 xs) w := by kernel_rfl
theorem enterFH (xs : Array Value) (w : World) : (callFunc 129 xs).run Tryd.prog w = .ok (.enter 129 xs) w := by kernel_rfl
theorem assertFork (v : Value) (w : World) : (Instr.typeAssert (.iface 125 v) 105 125 false).run Tryd.prog w = .ok v w := by kernel_rfl
theorem assertTip (v : Value) (w : World) : (Instr.typeAssert (.iface 124 v) 105 124 true).run Tryd.prog w = .ok (.tuple #[v, .bool true]) w := by kernel_rfl
theorem assertNoTip (v : Value) (w : World) : (Instr.typeAssert (.iface 125 v) 105 124 true).run Tryd.prog w = .ok (.tuple #[.agg #[.pointer none], .bool false]) w := by kernel_rfl

/-- A tree of leaves. -/
inductive RT where
  | tip (s : ByteArray)
  | fork (l r : RT)
namespace RT
def bytes : RT → ByteArray
  | tip s => s
  | fork l r => l.bytes ++ r.bytes
def high : RT → Nat
  | tip _ => 1
  | fork l r => 1 + max l.high r.high
def meas : RT → Wd
  | tip s => mOf s
  | fork l r => (joinE l.meas r.meas).1
def nodes : RT → Nat
  | tip _ => 1
  | fork l r => 1 + l.nodes + r.nodes
/-- Every leaf holds something, and none too much. -/
def ok : RT → Prop
  | tip s => 1 ≤ s.size ∧ s.size ≤ 4096
  | fork l r => l.ok ∧ r.ok
end RT
/-- v is a node of the tree T. -/
def IsNode (W : World) : Value → RT → Prop
  | v, .tip s => ∃ l, v = .iface 124 (.agg #[.pointer (some ⟨l, 0, none⟩)]) ∧ LeafAt W l s
  | v, .fork a b => ∃ p va vb, v = .iface 125 (.pointer (some ⟨p, 0, none⟩)) ∧
      Blk W p #[va, vb, .int .i64 (RT.fork a b).bytes.size, .int .i64 (RT.fork a b).high, .int .i64 (RT.fork a b).meas.b, .int .i64 (RT.fork a b).meas.r, .int .i64 (RT.fork a b).meas.u, .int .i64 (RT.fork a b).meas.e, .string (RT.fork a b).meas.hd, .string (RT.fork a b).meas.tl] 131 ∧
      IsNode W va a ∧ IsNode W vb b
theorem IsNode.below {W W' : World} (hb : Below W.heap.size W W') : ∀ (T : RT) (v : Value), IsNode W v T → IsNode W' v T
  | .tip _, _, ⟨l, h1, h2⟩ => ⟨l, h1, h2.below hb⟩
  | .fork a b, _, ⟨p, va, vb, h1, h2, h3, h4⟩ => ⟨p, va, vb, h1, h2.below hb, IsNode.below hb a va h3, IsNode.below hb b vb h4⟩
theorem RT.high_pos : ∀ T : RT, 1 ≤ T.high
  | .tip _ => Nat.le_refl _
  | .fork _ _ => Nat.le_add_right _ _
theorem RT.size_pos : ∀ T : RT, T.ok → 1 ≤ T.bytes.size
  | .tip _, h => h.1
  | .fork a b, h => by
    have := RT.size_pos a h.1
    show 1 ≤ (a.bytes ++ b.bytes).size
    rw [ByteArray.size_append]
    omega
theorem RT.high_le : ∀ T : RT, T.ok → T.high ≤ T.bytes.size
  | .tip _, h => h.1
  | .fork a b, h => by
    have ha := RT.high_le a h.1
    have hb := RT.high_le b h.2
    have pa := RT.size_pos a h.1
    have pb := RT.size_pos b h.2
    show 1 + max a.high b.high ≤ (a.bytes ++ b.bytes).size
    rw [ByteArray.size_append]
    omega
theorem zeroW_near : zeroW.near := by unfold Wd.near zeroW; decide
theorem mOf_near (s : ByteArray) (h : s.size ≤ 268435456) : (mOf s).near := by
  have hs := nSteps_le s
  have hc := cnt_bounds (stepsOf s)
  have hl : (stepsOf s).length = nSteps s := stepsUpto_length _ _
  have hb : (bytesOf s).length = s.size := by simp [bytesOf]
  unfold Wd.near mOf ofW
  rw [strOfNums_bytesOf]
  dsimp only
  rw [hl] at hc
  omega
theorem joinE_near (a b : Wd) : (joinE a b).1.near := by
  unfold joinE
  split
  · exact zeroW_near
  · split
    · exact zeroW_near
    · split
      · exact (Wd.good_tight _ (by assumption)).near
      · exact zeroW_near
theorem RT.meas_near : ∀ T : RT, T.ok → T.meas.near
  | .tip s, h => mOf_near s (by have := h.2; omega)
  | .fork a b, _ => joinE_near _ _
end Go.Proofs.YtcjplgcnjfinoaaDoor
