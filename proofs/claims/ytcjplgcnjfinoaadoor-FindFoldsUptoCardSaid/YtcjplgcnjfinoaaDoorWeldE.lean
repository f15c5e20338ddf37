/- Contracts of weld.Valid (whole), weld.both, weld.Join, rope.both, exact. Conditions: the tables hold what their text lays. -/
import Derived.Test.YtcjplgcnjfinoaaDoorWeldD
import Derived.Deep.DrawnRows
namespace Go.Proofs.YtcjplgcnjfinoaaDoor
open Go.RowKit Go.Shelf Go.Proofs.YtcjplgcnjfinoaaDoorW.PrintWords Go.Proofs.YtcjplgcnjfinoaaDoorW.PrintMore
attribute [local go_sem] max2_int min2_int max_two min_two
attribute [local go_sem ↓] Go.wp_at_zero Go.wp_at_succ

def Wd.good (x : Wd) : Bool := x.endsB && (if x.b ≤ 6 then x.shortB else x.inner)
theorem Valid_any (x : Wd) (hn : x.near) (w : World) (he : Env w) :
    Calls Tryd.prog 95 #[.agg #[.int .i64 x.b, .int .i64 x.r, .int .i64 x.u, .int .i64 x.e, .string x.hd, .string x.tl]] w fun e w' => e = .returned (.bool x.good) ∧ Below w.heap.size w w' := by
  unfold Wd.good
  cases hE : x.endsB
  · exact Valid_out x hE w
  · have hx := (Wd.endsB_iff x).1 hE
    rw [Bool.true_and]
    by_cases h : x.b ≤ 6
    · rw [if_pos h]; exact Valid_short x hx h w he
    · rw [if_neg h]; exact Valid_long x hx hn (by omega) w
theorem nSteps_le (s : ByteArray) : nSteps s ≤ s.size := by
  unfold nSteps
  cases h : (List.range (s.size + 1)).find? fun k => decide (s.size ≤ placeAt s k) with
  | none => exact Nat.zero_le _
  | some k =>
    have := List.mem_range.1 (List.mem_of_find?_eq_some h)
    show k ≤ s.size
    omega
/-- What a good measure's numbers keep to. -/
structure Wd.Tight (x : Wd) : Prop where
  b0 : 0 ≤ x.b
  b1 : x.b ≤ 268435456
  hd : (x.hd.size : Int) = min 3 x.b
  tl : (x.tl.size : Int) = min 3 x.b
  r0 : 0 ≤ x.r
  r1 : x.r ≤ 268435456
  u0 : 0 ≤ x.u
  u1 : x.u ≤ 536870912
  e0 : 0 ≤ x.e
  e1 : x.e ≤ 268435456
theorem Wd.good_tight (x : Wd) (h : x.good = true) : x.Tight := by
  unfold Wd.good at h
  rw [Bool.and_eq_true, Wd.endsB_iff] at h
  obtain ⟨⟨h0, h1, h2, h3⟩, h⟩ := h
  split at h
  · unfold Wd.shortB Wd.same at h
    simp only [Bool.and_eq_true, beq_iff_eq] at h
    obtain ⟨-, ⟨-, e2, e3, e4⟩, -⟩ := h
    have hl : (stepsOf (strOfNums (bytesOf x.shortS))).length = nSteps (strOfNums (bytesOf x.shortS)) := stepsUpto_length _ _
    have hz : x.shortS.size ≤ 6 := by
      unfold Wd.shortS
      split
      · rw [ByteArray.size_append, ByteArray.size_extract]
        have : x.over = (x.hd.size + x.tl.size - x.b).toNat := rfl
        omega
      · exact Nat.zero_le _
    have hc := cnt_bounds (stepsOf (strOfNums (bytesOf x.shortS)))
    have hs := nSteps_le (strOfNums (bytesOf x.shortS))
    rw [hl] at hc
    rw [strOfNums_bytesOf] at *
    simp only [ofW, strOfNums_bytesOf] at e2 e3 e4
    refine ⟨h0, h1, h2, h3, ?_, ?_, ?_, ?_, ?_, ?_⟩ <;> omega
  · unfold Wd.inner at h
    simp only [Bool.and_eq_true, decide_eq_true_eq] at h
    refine ⟨h0, h1, h2, h3, ?_, ?_, ?_, ?_, ?_, ?_⟩ <;> omega
theorem Wd.Tight.near {x : Wd} (h : x.Tight) : x.near := by
  obtain ⟨h0, h1, h2, h3, h4, h5, h6, h7, h8, h9⟩ := h
  unfold Wd.near
  omega
/-- What the measure of two parts is reckoned from. -/
def addW (a b : Wd) : Wd :=
  { b := a.b + b.b, r := a.r + b.r + -(allS a b a.tl.size).1, u := a.u + b.u + -(allS a b a.tl.size).2, e := a.e + b.e + -(seamEnd a b),
    hd := if a.b < 3 then (a.hd ++ b.hd).extract 0 (min 3 (a.hd ++ b.hd).size) else a.hd,
    tl := if b.b < 3 then (a.tl ++ b.tl).extract ((a.tl ++ b.tl).size - 3) (a.tl ++ b.tl).size else b.tl }
theorem seam_bounds (a b : Wd) (ha : a.tl.size ≤ 3) (hb : b.hd.size ≤ 3) : (0 ≤ (allS a b a.tl.size).1 ∧ (allS a b a.tl.size).1 ≤ 6) ∧ (0 ≤ (allS a b a.tl.size).2 ∧ (allS a b a.tl.size).2 ≤ 6) := by
  have row : ∀ (st : Int × Int) (k j : Nat), k ≤ 3 → j ≤ 3 → 1 ≤ k → ((0 ≤ st.1 ∧ st.1 ≤ 6) ∧ (0 ≤ st.2 ∧ st.2 ≤ 6)) → ((0 ≤ (rowS a b st k j).1 ∧ (rowS a b st k j).1 ≤ 6) ∧ (0 ≤ (rowS a b st k j).2 ∧ (rowS a b st k j).2 ≤ 6)) := by
    intro st k j hk hj hk1 h
    induction j with
    | zero => exact h
    | succ j ih =>
      have := ih (by omega)
      have hu := unitsOf_range (seamVal a b k (j + 1))
      have e : rowS a b st k (j + 1) = stepS a b (rowS a b st k j) k (j + 1) := rfl
      rw [e]
      generalize rowS a b st k j = q at *
      have hq : stepS a b q k (j + 1) = ((k : Int) + (j + 1 : Nat) - 1, (k : Int) + (j + 1 : Nat) - unitsOf (seamVal a b k (j + 1))) ∨ stepS a b q k (j + 1) = q := by unfold stepS; split <;> simp
      generalize unitsOf (seamVal a b k (j + 1)) = u at *
      rcases hq with hq | hq <;> rw [hq]
      · dsimp only
        omega
      · exact this
  have : ∀ k, k ≤ 3 → ((0 ≤ (allS a b k).1 ∧ (allS a b k).1 ≤ 6) ∧ (0 ≤ (allS a b k).2 ∧ (allS a b k).2 ≤ 6)) := by
    intro k
    induction k with
    | zero => intro _; exact ⟨⟨Int.le_refl 0, show (0 : Int) ≤ 6 by decide⟩, Int.le_refl 0, show (0 : Int) ≤ 6 by decide⟩
    | succ k ih => exact fun hk => row _ _ _ hk hb (by omega) (ih (by omega))
  exact this _ ha
theorem seamEnd_range (a b : Wd) : 0 ≤ seamEnd a b ∧ seamEnd a b ≤ 1 := by unfold seamEnd; split <;> omega
def zeroW : Wd := ⟨0, 0, 0, 0, ⟨#[]⟩, ⟨#[]⟩⟩
/-- The measure of two parts, and what went wrong. -/
def joinE (a b : Wd) : Wd × Int :=
  if (a.good && b.good) = false then (zeroW, 50) else if 268435456 < a.b + b.b then (zeroW, 5) else if (addW a b).good = true then (addW a b, 0) else (zeroW, 50)
end Go.Proofs.YtcjplgcnjfinoaaDoor
