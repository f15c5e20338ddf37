/- Contract of rope.join: whole, by induction on the nodes of both. -/
import Derived.Test.YtcjplgcnjfinoaaDoorRopeH
namespace Go.Proofs.YtcjplgcnjfinoaaDoor
open Go.RowKit Go.Shelf Go.Proofs.YtcjplgcnjfinoaaDoorW.PrintWords Go.Proofs.YtcjplgcnjfinoaaDoorW.PrintMore
attribute [local go_sem] max2_int min2_int max_two min_two
attribute [local go_sem ↓] Go.wp_at_zero Go.wp_at_succ

theorem levelH {w : World} {va vb : Value} {s t : ByteArray} (hsz : s.size + t.size ≤ 268435456) (he : Env w) (ha : Holds w va s) (hb : Holds w vb t) :
    Calls Tryd.prog 69 #[va, vb] w fun e w' => (∃ v, e = .returned v ∧ Holds w' v (s ++ t)) ∧ Below w.heap.size w w' := by
  obtain ⟨A, a1, a2, rfl⟩ := ha
  obtain ⟨B, b1, b2, rfl⟩ := hb
  exact level_any va vb A B a2 b2 hsz w he a1 b1

set_option maxRecDepth 100000 in
set_option maxHeartbeats 4000000 in
theorem join_left (va vb : Value) (A1 A2 B : RT) (okA : (RT.fork A1 A2).ok) (okB : B.ok) (hsz : (RT.fork A1 A2).bytes.size + B.bytes.size ≤ 268435456) (h1 : B.high + 1 < (RT.fork A1 A2).high) (w : World) (he : Env w) (ha : IsNode w va (.fork A1 A2)) (hb : IsNode w vb B)
    (hI : ∀ W v v', Env W → IsNode W v A2 → IsNode W v' B → Calls Tryd.prog 54 #[v, v'] W fun e w' => (∃ v, e = .returned v ∧ Holds w' v (A2.bytes ++ B.bytes)) ∧ Below W.heap.size W w') :
    Calls Tryd.prog 54 #[va, vb] w fun e w' => (∃ v, e = .returned v ∧ Holds w' v ((RT.fork A1 A2).bytes ++ B.bytes)) ∧ Below w.heap.size w w' := by
  have hSA : (RT.fork A1 A2).bytes.size = A1.bytes.size + A2.bytes.size := ByteArray.size_append
  have hSB : (A2.bytes ++ B.bytes).size = A2.bytes.size + B.bytes.size := ByteArray.size_append
  have hAs : (RT.fork A1 A2).bytes ++ B.bytes = A1.bytes ++ (A2.bytes ++ B.bytes) := ByteArray.append_assoc
  rw [hAs]
  have hhA := (RT.fork A1 A2).high_le okA
  have hhB := B.high_le okB
  obtain ⟨p, v1, v2, rfl, hp, n1, n2⟩ := ha
  have HP := Lib.hid (fun W (h : Below w.heap.size w W) => hI W v2 vb (he.below h) (IsNode.below h A2 v2 n2) (IsNode.below h B vb hb))
  have HQ := Lib.hid (fun W v (h : Below w.heap.size w W) (hN : Holds W v (A2.bytes ++ B.bytes)) => levelH (w := W) (va := v1) (vb := v) (s := A1.bytes) (by omega) (he.below h) ⟨A1, IsNode.below h A1 v1 n1, okA.1, rfl⟩ hN)
  have KC := Lib.hid (fun W (h : Below w.heap.size w W) => (show W.cell? ⟨p, 0, none⟩ = some v1 ∧ W.cell? ⟨p, 1, none⟩ = some v2 ∧ Below w.heap.size w W from ⟨(hp.below h).cell 0, (hp.below h).cell 1, h⟩))
  have cHf := fun W (h : Below w.heap.size w W) => forkHeight_any p v1 v2 (RT.fork A1 A2).bytes.size (RT.fork A1 A2).high (RT.fork A1 A2).meas W (hp.below h)
  have mHf := forkHeight (.pointer (some ⟨p, 0, none⟩))
  have eHf := enterFH
  have aF := assertFork
  obtain ⟨ta, ra, -, -, -, rfl, -, -, -, -, -, -, -, -, -⟩ := n1.fns
  obtain ⟨tc, rc, -, -, -, rfl, -, -, -, -, -, -, -, -, -⟩ := n2.fns
  obtain ⟨tb, rb, fSb, fWb, fHb, rfl, mSb, mWb, mHb, eSb, eWb, eHb, cSb, cWb, cHb⟩ := hb.fns
  generalize (RT.fork A1 A2).high = hA at *
  have g1 : (1 : Int) < (hA : Int) - B.high := by omega
  have g3 : IntKind.i64.wrap ((hA : Int) - B.high) = (hA : Int) - B.high := IntWalk.i64_in _ (by omega)
  clear he hb okA okB hsz h1 hhA hhB hSA hSB hAs n1 n2 hp hI cSb cWb mSb mWb eSb eWb
  go_enter Tryd.func54, Tryd.ntmps54
  go_wp2_with (first
    | (go_at_call 129; with_reducible refine (cHf _ (by (repeat (first | (with_reducible exact Below.refl _ _) | (with_reducible assumption) | (with_reducible apply bl_alloc) | (with_reducible apply bl_iter) | (with_reducible apply bl_drew) | (with_reducible apply bl_drewN) | (with_reducible refine bl_set ?_ (by first | assumption | (simp; done) | omega | (simp; omega)) _) | (with_reducible refine bl_then ?_ (by with_reducible assumption)))))).mono ?_; clear cHf; rintro e w3 ⟨rfl, hb3⟩)
    | (with_reducible refine (cHb _ (by (repeat (first | (with_reducible exact Below.refl _ _) | (with_reducible assumption) | (with_reducible apply bl_alloc) | (with_reducible apply bl_iter) | (with_reducible apply bl_drew) | (with_reducible apply bl_drewN) | (with_reducible refine bl_set ?_ (by first | assumption | (simp; done) | omega | (simp; omega)) _) | (with_reducible refine bl_then ?_ (by with_reducible assumption)))))).mono ?_; clear cHb; rintro e w4 ⟨rfl, hb4⟩; have hbw : Below w.heap.size w w4.drew := by (repeat (first | (with_reducible exact Below.refl _ _) | (with_reducible assumption) | (with_reducible apply bl_alloc) | (with_reducible apply bl_iter) | (with_reducible apply bl_drew) | (with_reducible apply bl_drewN) | (with_reducible refine bl_set ?_ (by first | assumption | (simp; done) | omega | (simp; omega)) _) | (with_reducible refine bl_then ?_ (by with_reducible assumption))))))
  go_region_held3 (fun W => W.cell? ⟨p, 0, none⟩ = some (.iface ta ra) ∧ W.cell? ⟨p, 1, none⟩ = some (.iface tc rc) ∧ Below w.heap.size w W)
    (first | (with_reducible exact KC.out _ hbw8) | (with_reducible exact KC.out _ hbw7) | (with_reducible exact KC.out _ hbw))
    (first
    | (go_at_call 54; refine (HP.out _ (by (repeat (first | (with_reducible exact Below.refl _ _) | (with_reducible assumption) | (with_reducible apply bl_alloc) | (with_reducible apply bl_iter) | (with_reducible apply bl_drew) | (with_reducible apply bl_drewN) | (with_reducible refine bl_set ?_ (by first | assumption | (simp; done) | omega | (simp; omega)) _) | (with_reducible refine bl_then ?_ (by with_reducible assumption)))))).mono ?_; clear HP; rintro e w7 ⟨⟨v, rfl, hN⟩, hb7⟩; have HN := Lib.hid hN; clear hN; have hbw7 : Below w.heap.size w w7 := by (repeat (first | (with_reducible exact Below.refl _ _) | (with_reducible assumption) | (with_reducible apply bl_alloc) | (with_reducible apply bl_iter) | (with_reducible apply bl_drew) | (with_reducible apply bl_drewN) | (with_reducible refine bl_set ?_ (by first | assumption | (simp; done) | omega | (simp; omega)) _) | (with_reducible refine bl_then ?_ (by with_reducible assumption)))))
    | (go_at_call 69; refine (HQ.out _ _ (by (repeat (first | (with_reducible exact Below.refl _ _) | (with_reducible assumption) | (with_reducible apply bl_alloc) | (with_reducible apply bl_iter) | (with_reducible apply bl_drew) | (with_reducible apply bl_drewN) | (with_reducible refine bl_set ?_ (by first | assumption | (simp; done) | omega | (simp; omega)) _) | (with_reducible refine bl_then ?_ (by with_reducible assumption))))) HN.out).mono ?_; clear HQ; rintro e w8 ⟨⟨v8, rfl, hN8⟩, hb8⟩; have HN8 := Lib.hid hN8; clear hN8; have hbw8 : Below w.heap.size w w8 := by (repeat (first | (with_reducible exact Below.refl _ _) | (with_reducible assumption) | (with_reducible apply bl_alloc) | (with_reducible apply bl_iter) | (with_reducible apply bl_drew) | (with_reducible apply bl_drewN) | (with_reducible refine bl_set ?_ (by first | assumption | (simp; done) | omega | (simp; omega)) _) | (with_reducible refine bl_then ?_ (by with_reducible assumption))))))
  go_wp2
  go_ret
  exact ⟨⟨_, rfl, HN8.out⟩, by (repeat (first | (with_reducible exact Below.refl _ _) | (with_reducible assumption) | (with_reducible apply bl_alloc) | (with_reducible apply bl_iter) | (with_reducible apply bl_drew) | (with_reducible apply bl_drewN) | (with_reducible refine bl_set ?_ (by first | assumption | (simp; done) | omega | (simp; omega)) _) | (with_reducible refine bl_then ?_ (by with_reducible assumption))))⟩

set_option maxRecDepth 100000 in
set_option maxHeartbeats 4000000 in
theorem join_right (va vb : Value) (A B1 B2 : RT) (okA : A.ok) (okB : (RT.fork B1 B2).ok) (hsz : A.bytes.size + (RT.fork B1 B2).bytes.size ≤ 268435456) (h1 : A.high + 1 < (RT.fork B1 B2).high) (w : World) (he : Env w) (ha : IsNode w va A) (hb : IsNode w vb (.fork B1 B2))
    (hI : ∀ W v v', Env W → IsNode W v A → IsNode W v' B1 → Calls Tryd.prog 54 #[v, v'] W fun e w' => (∃ v, e = .returned v ∧ Holds w' v (A.bytes ++ B1.bytes)) ∧ Below W.heap.size W w') :
    Calls Tryd.prog 54 #[va, vb] w fun e w' => (∃ v, e = .returned v ∧ Holds w' v (A.bytes ++ (RT.fork B1 B2).bytes)) ∧ Below w.heap.size w w' := by
  have hSB : (RT.fork B1 B2).bytes.size = B1.bytes.size + B2.bytes.size := ByteArray.size_append
  have hSA : (A.bytes ++ B1.bytes).size = A.bytes.size + B1.bytes.size := ByteArray.size_append
  have hAs : A.bytes ++ (RT.fork B1 B2).bytes = (A.bytes ++ B1.bytes) ++ B2.bytes := ByteArray.append_assoc.symm
  rw [hAs]
  have hhB := (RT.fork B1 B2).high_le okB
  have hhA := A.high_le okA
  obtain ⟨p, v1, v2, rfl, hp, n1, n2⟩ := hb
  have HP := Lib.hid (fun W (h : Below w.heap.size w W) => hI W va v1 (he.below h) (IsNode.below h A va ha) (IsNode.below h B1 v1 n1))
  have HQ := Lib.hid (fun W v (h : Below w.heap.size w W) (hN : Holds W v (A.bytes ++ B1.bytes)) => levelH (w := W) (va := v) (vb := v2) (t := B2.bytes) (by omega) (he.below h) hN ⟨B2, IsNode.below h B2 v2 n2, okB.2, rfl⟩)
  have KC := Lib.hid (fun W (h : Below w.heap.size w W) => (show W.cell? ⟨p, 0, none⟩ = some v1 ∧ W.cell? ⟨p, 1, none⟩ = some v2 ∧ Below w.heap.size w W from ⟨(hp.below h).cell 0, (hp.below h).cell 1, h⟩))
  have cHf := fun W (h : Below w.heap.size w W) => forkHeight_any p v1 v2 (RT.fork B1 B2).bytes.size (RT.fork B1 B2).high (RT.fork B1 B2).meas W (hp.below h)
  have mHf := forkHeight (.pointer (some ⟨p, 0, none⟩))
  have eHf := enterFH
  have aF := assertFork
  obtain ⟨tc, rc, -, -, -, rfl, -, -, -, -, -, -, -, -, -⟩ := n1.fns
  obtain ⟨td, rd, -, -, -, rfl, -, -, -, -, -, -, -, -, -⟩ := n2.fns
  obtain ⟨ta, ra, fSa, fWa, fHa, rfl, mSa, mWa, mHa, eSa, eWa, eHa, cSa, cWa, cHa⟩ := ha.fns
  generalize (RT.fork B1 B2).high = hB at *
  have g0 : ¬ (1 : Int) < (A.high : Int) - hB := by omega
  have g1 : (A.high : Int) - hB < -1 := by omega
  have g3 : IntKind.i64.wrap ((A.high : Int) - hB) = (A.high : Int) - hB := IntWalk.i64_in _ (by omega)
  clear he ha okA okB hsz h1 hhA hhB hSA hSB hAs n1 n2 hp hI cSa cWa mSa mWa eSa eWa
  go_enter Tryd.func54, Tryd.ntmps54
  go_wp2_with (first
    | (with_reducible refine (cHa _ (by (repeat (first | (with_reducible exact Below.refl _ _) | (with_reducible assumption) | (with_reducible apply bl_alloc) | (with_reducible apply bl_iter) | (with_reducible apply bl_drew) | (with_reducible apply bl_drewN) | (with_reducible refine bl_set ?_ (by first | assumption | (simp; done) | omega | (simp; omega)) _) | (with_reducible refine bl_then ?_ (by with_reducible assumption)))))).mono ?_; clear cHa; rintro e w3 ⟨rfl, hb3⟩)
    | (go_at_call 129; with_reducible refine (cHf _ (by (repeat (first | (with_reducible exact Below.refl _ _) | (with_reducible assumption) | (with_reducible apply bl_alloc) | (with_reducible apply bl_iter) | (with_reducible apply bl_drew) | (with_reducible apply bl_drewN) | (with_reducible refine bl_set ?_ (by first | assumption | (simp; done) | omega | (simp; omega)) _) | (with_reducible refine bl_then ?_ (by with_reducible assumption)))))).mono ?_; clear cHf; rintro e w4 ⟨rfl, hb4⟩; have hbw : Below w.heap.size w w4.drew := by (repeat (first | (with_reducible exact Below.refl _ _) | (with_reducible assumption) | (with_reducible apply bl_alloc) | (with_reducible apply bl_iter) | (with_reducible apply bl_drew) | (with_reducible apply bl_drewN) | (with_reducible refine bl_set ?_ (by first | assumption | (simp; done) | omega | (simp; omega)) _) | (with_reducible refine bl_then ?_ (by with_reducible assumption))))))
  go_region_held3 (fun W => W.cell? ⟨p, 0, none⟩ = some (.iface tc rc) ∧ W.cell? ⟨p, 1, none⟩ = some (.iface td rd) ∧ Below w.heap.size w W)
    (first | (with_reducible exact KC.out _ hbw8) | (with_reducible exact KC.out _ hbw7) | (with_reducible exact KC.out _ hbw))
    (first
    | (go_at_call 54; refine (HP.out _ (by (repeat (first | (with_reducible exact Below.refl _ _) | (with_reducible assumption) | (with_reducible apply bl_alloc) | (with_reducible apply bl_iter) | (with_reducible apply bl_drew) | (with_reducible apply bl_drewN) | (with_reducible refine bl_set ?_ (by first | assumption | (simp; done) | omega | (simp; omega)) _) | (with_reducible refine bl_then ?_ (by with_reducible assumption)))))).mono ?_; clear HP; rintro e w7 ⟨⟨v, rfl, hN⟩, hb7⟩; have HN := Lib.hid hN; clear hN; have hbw7 : Below w.heap.size w w7 := by (repeat (first | (with_reducible exact Below.refl _ _) | (with_reducible assumption) | (with_reducible apply bl_alloc) | (with_reducible apply bl_iter) | (with_reducible apply bl_drew) | (with_reducible apply bl_drewN) | (with_reducible refine bl_set ?_ (by first | assumption | (simp; done) | omega | (simp; omega)) _) | (with_reducible refine bl_then ?_ (by with_reducible assumption)))))
    | (go_at_call 69; refine (HQ.out _ _ (by (repeat (first | (with_reducible exact Below.refl _ _) | (with_reducible assumption) | (with_reducible apply bl_alloc) | (with_reducible apply bl_iter) | (with_reducible apply bl_drew) | (with_reducible apply bl_drewN) | (with_reducible refine bl_set ?_ (by first | assumption | (simp; done) | omega | (simp; omega)) _) | (with_reducible refine bl_then ?_ (by with_reducible assumption))))) HN.out).mono ?_; clear HQ; rintro e w8 ⟨⟨v8, rfl, hN8⟩, hb8⟩; have HN8 := Lib.hid hN8; clear hN8; have hbw8 : Below w.heap.size w w8 := by (repeat (first | (with_reducible exact Below.refl _ _) | (with_reducible assumption) | (with_reducible apply bl_alloc) | (with_reducible apply bl_iter) | (with_reducible apply bl_drew) | (with_reducible apply bl_drewN) | (with_reducible refine bl_set ?_ (by first | assumption | (simp; done) | omega | (simp; omega)) _) | (with_reducible refine bl_then ?_ (by with_reducible assumption))))))
  go_wp2
  go_ret
  exact ⟨⟨_, rfl, HN8.out⟩, by (repeat (first | (with_reducible exact Below.refl _ _) | (with_reducible assumption) | (with_reducible apply bl_alloc) | (with_reducible apply bl_iter) | (with_reducible apply bl_drew) | (with_reducible apply bl_drewN) | (with_reducible refine bl_set ?_ (by first | assumption | (simp; done) | omega | (simp; omega)) _) | (with_reducible refine bl_then ?_ (by with_reducible assumption))))⟩

theorem join_nodes (n : Nat) : ∀ (A B : RT) (va vb : Value), A.nodes + B.nodes ≤ n → A.ok → B.ok → A.bytes.size + B.bytes.size ≤ 268435456 → ∀ w : World, Env w → IsNode w va A → IsNode w vb B →
    Calls Tryd.prog 54 #[va, vb] w fun e w' => (∃ v, e = .returned v ∧ Holds w' v (A.bytes ++ B.bytes)) ∧ Below w.heap.size w w' := by
  induction n with
  | zero =>
    intro A B va vb hn
    cases A <;> simp [RT.nodes] at hn <;> omega
  | succ n ih =>
    intro A B va vb hn okA okB hsz w he ha hb
    by_cases h1 : B.high + 1 < A.high
    · cases A with
      | tip s => exact absurd h1 (by have := B.high_pos; show ¬ B.high + 1 < 1; omega)
      | fork A1 A2 =>
        have hSA : (RT.fork A1 A2).bytes.size = A1.bytes.size + A2.bytes.size := ByteArray.size_append
        have hN : (RT.fork A1 A2).nodes = 1 + A1.nodes + A2.nodes := rfl
        exact join_left va vb A1 A2 B okA okB hsz h1 w he ha hb fun W v v' e1 e2 e3 => ih A2 B v v' (by omega) okA.2 okB (by omega) W e1 e2 e3
    · by_cases h2 : A.high + 1 < B.high
      · cases B with
        | tip s => exact absurd h2 (by have := A.high_pos; show ¬ A.high + 1 < 1; omega)
        | fork B1 B2 =>
          have hSB : (RT.fork B1 B2).bytes.size = B1.bytes.size + B2.bytes.size := ByteArray.size_append
          have hN : (RT.fork B1 B2).nodes = 1 + B1.nodes + B2.nodes := rfl
          exact join_right va vb A B1 B2 okA okB hsz h2 w he ha hb fun W v v' e1 e2 e3 => ih A B1 v v' (by omega) okA okB.1 (by omega) W e1 e2 e3
      · obtain ⟨la, oA, aA, kA⟩ := ha.asks
        obtain ⟨lb, oB, aB, kB⟩ := hb.asks
        by_cases h3 : (oA && oB) = true ∧ A.bytes.size + B.bytes.size ≤ 4096
        · obtain ⟨h3, h4⟩ := h3
          rw [Bool.and_eq_true] at h3
          obtain ⟨l, s, rfl, -, -⟩ := kA h3.1
          obtain ⟨m, t, rfl, -, -⟩ := kB h3.2
          obtain ⟨l, rfl, hl⟩ := ha
          obtain ⟨m, rfl, hm⟩ := hb
          exact join_tips l m s t okA h4 w he hl hm
        · exact join_pair va vb A B okA okB hsz (by omega) (by omega) la lb oA oB aA aB (fun h h' => h3 ⟨h, h'⟩) w he ha hb

/-- v is a node that holds s, or none that holds nothing. -/
def Top (W : World) (v : Value) (s : ByteArray) : Prop := (v = .nilIface ∧ s = ByteArray.empty) ∨ Holds W v s
theorem Top.below {W W' : World} {v : Value} {s : ByteArray} (h : Top W v s) (hb : Below W.heap.size W W') : Top W' v s := h.imp id fun h => h.below hb
set_option maxRecDepth 100000 in
theorem join_any (va vb : Value) (s t : ByteArray) (hsz : s.size + t.size ≤ 268435456) (w : World) (he : Env w) (ha : Top w va s) (hb : Top w vb t) :
    Calls Tryd.prog 54 #[va, vb] w fun e w' => (∃ v, e = .returned v ∧ Top w' v (s ++ t)) ∧ Below w.heap.size w w' := by
  rcases ha with ⟨rfl, rfl⟩ | ha
  · have h2 : Top w vb (ByteArray.empty ++ t) := by rw [ByteArray.empty_append]; exact hb
    have HB := Lib.hid h2
    clear hb he hsz h2
    go_enter Tryd.func54, Tryd.ntmps54
    go_wp2
    go_ret
    exact ⟨⟨_, rfl, HB.out⟩, by (repeat (first | (with_reducible exact Below.refl _ _) | (with_reducible assumption) | (with_reducible apply bl_alloc) | (with_reducible apply bl_iter) | (with_reducible apply bl_drew) | (with_reducible apply bl_drewN) | (with_reducible refine bl_set ?_ (by first | assumption | (simp; done) | omega | (simp; omega)) _) | (with_reducible refine bl_then ?_ (by with_reducible assumption))))⟩
  · rcases hb with ⟨rfl, rfl⟩ | hb
    · have h2 : Top w va (s ++ ByteArray.empty) := by rw [ByteArray.append_empty]; exact .inr ha
      obtain ⟨A, ha, -, -⟩ := ha
      obtain ⟨ta, ra, -, -, -, rfl, -, -, -, -, -, -, -, -, -⟩ := ha.fns
      have HB := Lib.hid h2
      clear he hsz h2 ha
      go_enter Tryd.func54, Tryd.ntmps54
      go_wp2
      go_ret
      exact ⟨⟨_, rfl, HB.out⟩, by (repeat (first | (with_reducible exact Below.refl _ _) | (with_reducible assumption) | (with_reducible apply bl_alloc) | (with_reducible apply bl_iter) | (with_reducible apply bl_drew) | (with_reducible apply bl_drewN) | (with_reducible refine bl_set ?_ (by first | assumption | (simp; done) | omega | (simp; omega)) _) | (with_reducible refine bl_then ?_ (by with_reducible assumption))))⟩
    · obtain ⟨A, a1, a2, rfl⟩ := ha
      obtain ⟨B, b1, b2, rfl⟩ := hb
      exact (join_nodes _ A B va vb (Nat.le_refl _) a2 b2 hsz w he a1 b1).mono fun e w' ⟨⟨v, h1, h2⟩, h3⟩ => ⟨⟨v, h1, .inr h2⟩, h3⟩
end Go.Proofs.YtcjplgcnjfinoaaDoor
