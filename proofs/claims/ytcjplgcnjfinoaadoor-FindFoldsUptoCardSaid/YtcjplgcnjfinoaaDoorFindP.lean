/- Plain laws of find's answers: letters turned about; more is alike with fold than without. No program in sight. -/
import Derived.Test.YtcjplgcnjfinoaaDoorLawA
import Derived.Laws.BitsAllLaws
namespace Go.Proofs.YtcjplgcnjfinoaaDoor
open Go.RowKit Go.Shelf Go.Proofs.YtcjplgcnjfinoaaDoorW.PrintWords Go.Proofs.YtcjplgcnjfinoaaDoorW.PrintMore

/-- A letter of ASCII turned about. -/
def turnI (c : Int) : Int := if 97 ≤ c ∧ c ≤ 122 then c - 32 else if 65 ≤ c ∧ c ≤ 90 then c + 32 else c
theorem low_turn (c : Int) : lowI (turnI c) = lowI c := by
  unfold turnI lowI
  repeat' split
  all_goals omega
theorem xor_low : ∀ k : Fin 26, (65 + k.val) ^^^ 32 = 97 + k.val := by decide
theorem xor_up : ∀ k : Fin 26, (97 + k.val) ^^^ 32 = 65 + k.val := by decide
theorem xor_turn (c : Int) (h : (97 ≤ c ∧ c ≤ 122) ∨ (65 ≤ c ∧ c ≤ 90)) : bits .xor .u8 c 32 = turnI c := by
  rw [u8_xor c 32 (by omega) (by omega) (by omega) (by omega)]
  unfold turnI
  rcases h with h | h
  · rw [if_pos h]
    have := xor_up ⟨c.toNat - 97, by omega⟩
    have e : 97 + (c.toNat - 97) = c.toNat := by omega
    simp only [e] at this
    show ((c.toNat ^^^ 32 : Nat) : Int) = c - 32
    rw [this]
    omega
  · rw [if_neg (by omega), if_pos h]
    have := xor_low ⟨c.toNat - 65, by omega⟩
    have e : 65 + (c.toNat - 65) = c.toNat := by omega
    simp only [e] at this
    show ((c.toNat ^^^ 32 : Nat) : Int) = c + 32
    rw [this]
    omega
theorem alike_turn (a c : Int) : alikeI true a (turnI c) = alikeI true a c := by
  unfold alikeI
  rw [if_pos rfl, if_pos rfl, low_turn]
theorem alike_more {a b : Int} (h : alikeI false a b = true) : alikeI true a b = true := by
  unfold alikeI at *
  have e : a = b := by simpa using h
  rw [if_pos rfl, e]
  simp
theorem need_turn (xs ns : List Int) (lo k : Nat) : needUpto true xs (ns.map turnI) lo k = needUpto true xs ns lo k := by
  unfold needUpto
  congr 1
  funext j
  by_cases hj : j < ns.length
  · have e : (ns.map turnI).getD j 0 = turnI (ns.getD j 0) := by
      simp [List.getD_eq_getElem?_getD, List.getElem?_eq_getElem hj]
    rw [e, alike_turn]
  · have e : (ns.map turnI).getD j 0 = ns.getD j 0 := by
      rw [List.getD_eq_getElem?_getD, List.getD_eq_getElem?_getD, List.getElem?_eq_none (by simpa using hj), List.getElem?_eq_none (by omega)]
    rw [e]
theorem stands_turn (xs ns : List Int) (lo : Nat) : standsI true xs (ns.map turnI) lo = standsI true xs ns lo := by
  unfold standsI
  rw [need_turn, List.length_map]
theorem next_turn (xs ns : List Int) (p : Nat) : nextI true xs (ns.map turnI) p = nextI true xs ns p := by
  unfold nextI
  simp only [stands_turn]
theorem all_turn (xs ns : List Int) (k : Nat) : ∀ p, allI true xs (ns.map turnI) k p = allI true xs ns k p := by
  induction k with
  | zero => intro p; rfl
  | succ k ih => intro p; unfold allI; rw [next_turn, List.length_map, ih]
/-- A needle finds what its letters turned about find. -/
theorem hits_turn (xs ns : List Int) : hitsI true xs (ns.map turnI) = hitsI true xs ns := all_turn xs ns _ _
theorem need_more {xs ns : List Int} {lo k : Nat} (h : needUpto false xs ns lo k = true) : needUpto true xs ns lo k = true := by
  unfold needUpto at *
  rw [List.all_eq_true] at *
  exact fun j hj => alike_more (h j hj)
theorem stands_more {xs ns : List Int} {lo : Nat} (h : standsI false xs ns lo = true) : standsI true xs ns lo = true := by
  unfold standsI at *
  simp only [Bool.and_eq_true] at *
  exact ⟨h.1, need_more h.2.1, h.2.2⟩
/-- Where bytes are found, alike bytes are found there or ahead. -/
theorem next_more {xs ns : List Int} {p k : Nat} (h : nextI false xs ns p = k) : ∃ j : Nat, nextI true xs ns p = j ∧ j ≤ k := by
  rcases nextI_cases false xs ns p with ⟨e, -⟩ | ⟨k', e, h1, h2, -⟩
  · rw [h] at e; omega
  · obtain rfl : k' = k := by rw [h] at e; omega
    rcases nextI_cases true xs ns p with ⟨-, hno⟩ | ⟨j, e', -, -, hno⟩
    · have := hno k' h1
      rw [stands_more h2] at this
      cases this
    · refine ⟨j, e', ?_⟩
      rcases Nat.lt_or_ge k' j with hlt | hge
      · have := hno k' h1 hlt
        rw [stands_more h2] at this
        cases this
      · exact hge
end Go.Proofs.YtcjplgcnjfinoaaDoor
