/- Contract of rope.forwards from the first byte on, for every round of a loop. -/
import Derived.Test.YtcjplgcnjfinoaaDoorRopeB
import Derived.Test.YtcjplgcnjfinoaaDoorPieces
namespace Go.Proofs.YtcjplgcnjfinoaaDoor
open Go.RowKit Go.Shelf Go.Proofs.YtcjplgcnjfinoaaDoorW.PrintWords Go.Proofs.YtcjplgcnjfinoaaDoorW.PrintMore
attribute [local go_sem] Oper.semAt_some max2_int min2_int max_two min_two

theorem assertForkOk (v : Value) (w : World) : (Instr.typeAssert (.iface 125 v) 105 125 true).run Tryd.prog w = .ok (.tuple #[v, .bool true]) w := by kernel_rfl
theorem assertNil1 (w : World) : (Instr.typeAssert .nilIface 105 124 true).run Tryd.prog w = .ok (.tuple #[.agg #[.pointer none], .bool false]) w := by kernel_rfl
theorem assertNil2 (w : World) : (Instr.typeAssert .nilIface 105 125 true).run Tryd.prog w = .ok (.tuple #[.pointer none, .bool false]) w := by kernel_rfl
/-- The leaves' bytes. -/
def RT.leaves : RT → List (List Int)
  | .tip s => [bytesOf s]
  | .fork a b => a.leaves ++ b.leaves

/-- What a walk over pieces leaves. -/
def Walked (n₀ : Nat) (W : World) (J Jx : List (List Int) → World → Prop) (L : List (List Int)) (e : Ending) (W' : World) : Prop :=
  (e = .returned (.bool true) ∧ J L W' ∧ Below n₀ W W') ∨ (e = .returned (.bool false) ∧ ∃ pre, Jx pre W')

theorem bl_down {n₀ : Nat} {W W' : World} (hn : n₀ ≤ W.heap.size) (h : Below W.heap.size W W') : Below n₀ W W' := h.mono hn

set_option maxRecDepth 100000 in
set_option maxHeartbeats 2000000 in
theorem forwards_tip (w0 : World) (l : Nat) (L : List (List Int)) (J Jx : List (List Int) → World → Prop) (hJ : ∀ pre X Y, J pre X → Below X.heap.size X Y → J pre Y) (hR : Rounds Tryd.prog l w0.heap.size L J Jx)
    (s : ByteArray) (n : Nat) (v : Value) (pre : List (List Int)) (W : World) (ok : (RT.tip s).ok) (hv : IsNode w0 v (.tip s)) (hb0 : Below w0.heap.size w0 W) (h0 : J pre W) (hL : (pre ++ (RT.tip s).leaves) <+: L) :
    CallsIn Fence.wide n Tryd.prog 66 #[v, .int .i64 0, .func (.yield l) #[] #[]] W (Walked w0.heap.size W J Jx (pre ++ (RT.tip s).leaves)) := by
  obtain ⟨m, rfl, hm⟩ := hv
  have hm : LeafAt W m s := hm.below hb0
  have hs1 : 1 ≤ s.size := ok.1
  have hs2 : s.size ≤ 4096 := ok.2
  have HB := Lib.hid (fun W' (h : Below W.heap.size W W') => leafBytes_any m s W' (hm.below h) (by omega))
  have aT := assertTip
  have hge : ¬ (s.size : Int) ≤ 0 := by omega
  have hge2 : ¬ s.size = 0 := by omega
  have HR := Lib.hid hR
  have HJ := Lib.hid (fun Y h => hJ pre W Y h0 h)
  have HL := Lib.hid hL
  have hn0 := hb0.size
  clear hm ok hb0 h0 hL hR hJ
  refine callsIn_of_wp Tryd.func66 rfl trivial ?_ rfl
  simp only [Tryd.ntmps66, List.size_toArray, List.length_cons, List.length_nil, Nat.reduceAdd, Nat.reduceSub, Array.replicate_succ, Array.replicate_zero, List.push_toArray, List.append_toArray, List.nil_append, List.cons_append]
  gi_wp2_with (first
    | (refine ⟨trivial, by simp [Fence.wide], ?_⟩; gi_at_call 78; refine (callsIn_wide.2 (HB.out _ (by (repeat (first | (with_reducible exact Below.refl _ _) | (with_reducible assumption) | (with_reducible apply bl_alloc) | (with_reducible apply bl_iter) | (with_reducible apply bl_drew) | (with_reducible apply bl_drewN) | (with_reducible refine bl_set ?_ (by first | assumption | (simp; done) | omega | (simp; omega)) _) | (with_reducible refine bl_then ?_ (by with_reducible assumption))))))).mono ?_; clear HB; rintro e w1 ⟨⟨c, rfl, hc, hr⟩, hb1⟩; obtain ⟨fn, tmps, assign, body, hy, hRd⟩ := HR.out (n - 1) pre ⟨_, s.size, c, bytesOf s⟩ w1 (HJ.out _ (by (repeat (first | (with_reducible exact Below.refl _ _) | (with_reducible assumption) | (with_reducible apply bl_alloc) | (with_reducible apply bl_iter) | (with_reducible apply bl_drew) | (with_reducible apply bl_drewN) | (with_reducible refine bl_set ?_ (by first | assumption | (simp; done) | omega | (simp; omega)) _) | (with_reducible refine bl_then ?_ (by with_reducible assumption)))))) ⟨hr, hc, hs1⟩ HL.out; simp only [Pc.args, World.size_alloc] at hy))
  refine ⟨by simp [Fence.wide], hRd.mono ?_⟩
  rintro e W4 (⟨rfl, hJ4, hk4⟩ | ⟨rfl, hJx4⟩)
  · have hbb : Below w0.heap.size W w1 := bl_down hn0 (by (repeat (first | (with_reducible exact Below.refl _ _) | (with_reducible assumption) | (with_reducible apply bl_alloc) | (with_reducible apply bl_iter) | (with_reducible apply bl_drew) | (with_reducible apply bl_drewN) | (with_reducible refine bl_set ?_ (by first | assumption | (simp; done) | omega | (simp; omega)) _) | (with_reducible refine bl_then ?_ (by with_reducible assumption)))))
    have HX := Lib.hid (And.intro hJ4 (hbb.trans hk4))
    clear hJ4 hk4 hbb hy
    gi_wp2
    refine bodyPost_ret (by simp [results, Tryd.results66, go_sem]) rfl (.inl ⟨rfl, HX.out⟩)
  · have HX := Lib.hid hJx4
    clear hJx4 hy
    gi_wp2
    refine bodyPost_ret (by simp [results, Tryd.results66, go_sem]) rfl (.inr ⟨rfl, _, HX.out⟩)

set_option maxRecDepth 100000 in
set_option maxHeartbeats 4000000 in
theorem forwards_fork (w0 : World) (J Jx : List (List Int) → World → Prop) (l : Nat) (L : List (List Int)) (A B : RT)
    (hA : ∀ (m : Nat) (v : Value) (pre : List (List Int)) (W : World), IsNode w0 v A → Below w0.heap.size w0 W → J pre W → (pre ++ A.leaves) <+: L → CallsIn Fence.wide m Tryd.prog 66 #[v, .int .i64 0, .func (.yield l) #[] #[]] W (Walked w0.heap.size W J Jx (pre ++ A.leaves)))
    (hB : ∀ (m : Nat) (v : Value) (pre : List (List Int)) (W : World), IsNode w0 v B → Below w0.heap.size w0 W → J pre W → (pre ++ B.leaves) <+: L → CallsIn Fence.wide m Tryd.prog 66 #[v, .int .i64 0, .func (.yield l) #[] #[]] W (Walked w0.heap.size W J Jx (pre ++ B.leaves)))
    (n : Nat) (v : Value) (pre : List (List Int)) (W : World) (hJ : ∀ pre X Y, J pre X → Below X.heap.size X Y → J pre Y) (ok : (RT.fork A B).ok) (hsz : (RT.fork A B).bytes.size ≤ 268435456) (hv : IsNode w0 v (.fork A B)) (hb0 : Below w0.heap.size w0 W) (h0 : J pre W) (hL : (pre ++ (RT.fork A B).leaves) <+: L) :
    CallsIn Fence.wide n Tryd.prog 66 #[v, .int .i64 0, .func (.yield l) #[] #[]] W (Walked w0.heap.size W J Jx (pre ++ (RT.fork A B).leaves)) := by
  have hLs : pre ++ (RT.fork A B).leaves = (pre ++ A.leaves) ++ B.leaves := by show pre ++ (A.leaves ++ B.leaves) = _; rw [List.append_assoc]
  rw [hLs] at hL ⊢
  have hLA : (pre ++ A.leaves) <+: L := (List.prefix_append _ _).trans hL
  have hsA : (RT.fork A B).bytes.size = A.bytes.size + B.bytes.size := ByteArray.size_append
  have hp1 := A.size_pos ok.1
  have g1 : (0 : Int) < (A.bytes.size : Int) := by omega
  have g7 : 0 < A.bytes.size := by omega
  have g2 : IntKind.i64.wrap ((0 : Int) - (A.bytes.size : Int)) = (0 : Int) - (A.bytes.size : Int) := IntWalk.i64_in _ (by omega)
  have g3 : ¬ (0 : Int) < (0 : Int) - (A.bytes.size : Int) := by omega
  have g4 : IntKind.i64.wrap (-(A.bytes.size : Int)) = -(A.bytes.size : Int) := IntWalk.i64_in _ (by omega)
  have g5 : ¬ (0 : Int) < -(A.bytes.size : Int) := by omega
  have g6 : max (0 : Int) (-(A.bytes.size : Int)) = 0 := by omega
  obtain ⟨p, v1, v2, rfl, hp, n1, n2⟩ := hv
  have n1' := IsNode.below hb0 A v1 n1
  obtain ⟨ta, ra, fSa, fWa, fHa, rfl, mSa, mWa, mHa, eSa, eWa, eHa, cSa, cWa, cHa⟩ := n1'.fns
  have hpW := hp.below hb0
  have c0 : W.cell? ⟨p, 0, none⟩ = some (.iface ta ra) := hpW.cell 0
  have c1 : W.cell? ⟨p, 1, none⟩ = some v2 := hpW.cell 1
  have HC := Lib.hid (fun X (h : Below w0.heap.size w0 X) => (show X.cell? ⟨p, 1, none⟩ = some v2 from (hp.below h).cell 1))
  have HA := Lib.hid (fun X (h : Below W.heap.size W X) => hA (n - 1) (.iface ta ra) pre X n1 (hb0.trans (bl_down hb0.size h)) (hJ _ _ _ h0 h) hLA)
  have HB := Lib.hid (fun X (h : Below w0.heap.size w0 X) (hj : J (pre ++ A.leaves) X) => hB (n - 1) v2 (pre ++ A.leaves) X n2 h hj hL)
  have H0 := Lib.hid hb0
  have aF := assertForkOk
  have aN := assertNoTip
  have hpl := hpW.lt
  have hn0 := hb0.size
  clear hA hB hJ ok hsz hb0 h0 hL hLs hLA hsA hp1 hp n1 n1' n2 hpW cWa cHa mWa mHa eWa eHa
  refine callsIn_of_wp Tryd.func66 rfl trivial ?_ rfl
  simp only [Tryd.ntmps66, List.size_toArray, List.length_cons, List.length_nil, Nat.reduceAdd, Nat.reduceSub, Array.replicate_succ, Array.replicate_zero, List.push_toArray, List.append_toArray, List.nil_append, List.cons_append]
  gi_wp2_with (first
    | (refine ⟨trivial, by simp [Fence.wide], ?_⟩; with_reducible refine (callsIn_wide.2 (cSa _ (by (repeat (first | (with_reducible exact Below.refl _ _) | (with_reducible assumption) | (with_reducible apply bl_alloc) | (with_reducible apply bl_iter) | (with_reducible apply bl_drew) | (with_reducible apply bl_drewN) | (with_reducible refine bl_set ?_ (by first | assumption | (simp; done) | omega | (simp; omega)) _) | (with_reducible refine bl_then ?_ (by with_reducible assumption))))))).mono ?_; clear cSa; rintro e w1 ⟨rfl, hb1⟩; obtain ⟨hcl1, hfr1⟩ := bcell hb1)
    | (refine ⟨trivial, by simp [Fence.wide], ?_⟩; gi_at_call 66; refine (HA.out _ (by (repeat (first | (with_reducible exact Below.refl _ _) | (with_reducible assumption) | (with_reducible apply bl_alloc) | (with_reducible apply bl_iter) | (with_reducible apply bl_drew) | (with_reducible apply bl_drewN) | (with_reducible refine bl_set ?_ (by first | assumption | (simp; done) | omega | (simp; omega)) _) | (with_reducible refine bl_then ?_ (by with_reducible assumption)))))).mono ?_; clear HA; rintro e w2 (⟨rfl, hJ2, hk2⟩ | ⟨rfl, hJx2⟩); (try (have hk2' : Below w0.heap.size W w2 := (bl_down hn0 hb1).trans hk2; have hc2 : w2.cell? ⟨p, 1, none⟩ = some v2 := HC.out _ (H0.out.trans hk2'))))
    | (refine ⟨trivial, by simp [Fence.wide], ?_⟩; gi_at_call 66; refine (HB.out _ (H0.out.trans hk2') hJ2).mono ?_; clear HB; rintro e w3 (⟨rfl, hJ3, hk3⟩ | ⟨rfl, hJx3⟩)))
  · exact bodyPost_ret (by simp [results, Tryd.results66, go_sem]) rfl (.inl ⟨rfl, hJ3, hk2'.trans hk3⟩)
  · exact bodyPost_ret (by simp [results, Tryd.results66, go_sem]) rfl (.inr ⟨rfl, hJx3⟩)
  · exact bodyPost_ret (by simp [results, Tryd.results66, go_sem]) rfl (.inr ⟨rfl, hJx2⟩)
theorem forwards_in (w0 : World) (l : Nat) (L : List (List Int)) (J Jx : List (List Int) → World → Prop) (hJ : ∀ pre X Y, J pre X → Below X.heap.size X Y → J pre Y) (hR : Rounds Tryd.prog l w0.heap.size L J Jx) :
    ∀ (T : RT) (n : Nat) (v : Value) (pre : List (List Int)) (W : World), T.ok → T.bytes.size ≤ 268435456 → IsNode w0 v T → Below w0.heap.size w0 W → J pre W → (pre ++ T.leaves) <+: L →
      CallsIn Fence.wide n Tryd.prog 66 #[v, .int .i64 0, .func (.yield l) #[] #[]] W (Walked w0.heap.size W J Jx (pre ++ T.leaves))
  | .tip s, n, v, pre, W, ok, _, hv, hb, h0, hL => forwards_tip w0 l L J Jx hJ hR s n v pre W ok hv hb h0 hL
  | .fork A B, n, v, pre, W, ok, hs, hv, hb, h0, hL => by
    have hsA : (RT.fork A B).bytes.size = A.bytes.size + B.bytes.size := ByteArray.size_append
    exact forwards_fork w0 J Jx l L A B (fun m v pre W h1 h2 h3 h4 => forwards_in w0 l L J Jx hJ hR A m v pre W ok.1 (by omega) h1 h2 h3 h4) (fun m v pre W h1 h2 h3 h4 => forwards_in w0 l L J Jx hJ hR B m v pre W ok.2 (by omega) h1 h2 h3 h4)
      n v pre W hJ ok hs hv hb h0 hL
set_option maxRecDepth 100000 in
theorem forwards_nil (n : Nat) (v : Value) (W : World) :
    CallsIn Fence.wide n Tryd.prog 66 #[.nilIface, .int .i64 0, v] W fun e W' => e = .returned (.bool true) ∧ W' = W := by
  have a1 := assertNil1
  have a2 := assertNil2
  refine callsIn_of_wp Tryd.func66 rfl trivial ?_ rfl
  simp only [Tryd.ntmps66, List.size_toArray, List.length_cons, List.length_nil, Nat.reduceAdd, Nat.reduceSub, Array.replicate_succ, Array.replicate_zero, List.push_toArray, List.append_toArray, List.nil_append, List.cons_append]
  gi_wp2
  exact bodyPost_ret (by simp [results, Tryd.results66, go_sem]) rfl ⟨rfl, rfl⟩
end Go.Proofs.YtcjplgcnjfinoaaDoor
