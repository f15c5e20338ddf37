/- Contract of weld.seam, exact. Conditions: the tables hold what their text lays. -/
import Derived.Test.YtcjplgcnjfinoaaDoorWeldC
namespace Go.Proofs.YtcjplgcnjfinoaaDoor
open Go.RowKit Go.Shelf Go.Proofs.YtcjplgcnjfinoaaDoorW.PrintWords Go.Proofs.YtcjplgcnjfinoaaDoorW.PrintMore
attribute [local go_sem] max2_int min2_int max_two min_two

theorem tailIs_any (s : ByteArray) (c : Int) (w : World) (h : 0 < s.size) (hs : s.size ≤ 3) :
    Calls Tryd.prog 103 #[.string s, .int .u8 c] w fun e w' => e = .returned (.bool (bt s (s.size - 1) == c)) ∧ w = w' := by
  have h' : (0 : Int) < s.size := by omega
  have hb : ((s[s.size - 1]'(by omega)).toNat : Int) = bt s (s.size - 1) := by
    have := bt_at s (s.size - 1) (by omega)
    rw [← this]
    congr 2
    congr 1
    omega
  rw [← hb]
  clear hb
  go_enter Tryd.func103, Tryd.ntmps103
  go_wp2
  go_ret
  exact ⟨rfl, rfl⟩
theorem tailIs_none (s : ByteArray) (c : Int) (w : World) (h : s.size = 0) :
    Calls Tryd.prog 103 #[.string s, .int .u8 c] w fun e w' => e = .returned (.bool false) ∧ w = w' := by
  have h' : ¬ (0 : Int) < s.size := by omega
  go_enter Tryd.func103, Tryd.ntmps103
  go_wp2
  go_ret
  exact ⟨rfl, rfl⟩

/-- The bytes about the seam: the last k of the one, the first j of the other. -/
def seamAt (a b : Wd) (k j : Nat) : ByteArray := a.tl.extract (a.tl.size - k) a.tl.size ++ b.hd.extract 0 j
def seamVal (a b : Wd) (k j : Nat) : Int := valueOf (bytesOf (seamAt a b k j))
def stepS (a b : Wd) (st : Int × Int) (k j : Nat) : Int × Int := if 0 ≤ seamVal a b k j then ((k : Int) + j - 1, (k : Int) + j - unitsOf (seamVal a b k j)) else st
def rowS (a b : Wd) (st : Int × Int) (k : Nat) : Nat → Int × Int
  | 0 => st
  | j + 1 => stepS a b (rowS a b st k j) k (j + 1)
def allS (a b : Wd) : Nat → Int × Int
  | 0 => (0, 0)
  | k + 1 => rowS a b (allS a b k) (k + 1) b.hd.size
def seamEnd (a b : Wd) : Int := if 0 < a.tl.size ∧ bt a.tl (a.tl.size - 1) = 13 ∧ 0 < b.hd.size ∧ bt b.hd 0 = 10 then 1 else 0
theorem Bytes_bytesOf (s : ByteArray) : Bytes (bytesOf s) := fun i => by
  have h := rd_bytesOf s (i : Int)
  unfold rd at h
  rw [Int.toNat_natCast] at h
  rw [h]
  exact bt_range s i

theorem Blk.new' {W : World} {g : Nat} (hg : g = W.heap.size) (cs : Array Value) (t : TypeId) : Blk (W.alloc (.cells cs t)) g cs t := hg ▸ Blk.new W cs t
theorem rowS_pos (a b : Wd) (st : Int × Int) (k j : Nat) (h : 1 ≤ j) : rowS a b st k j = stepS a b (rowS a b st k (j - 1)) k j := by
  obtain ⟨i, rfl⟩ : ∃ i, j = i + 1 := ⟨j - 1, by omega⟩
  rfl
theorem allS_pos (a b : Wd) (k : Nat) (h : 1 ≤ k) : allS a b k = rowS a b (allS a b (k - 1)) k b.hd.size := by
  obtain ⟨i, rfl⟩ : ∃ i, k = i + 1 := ⟨k - 1, by omega⟩
  rfl
theorem seamAt_size (a b : Wd) (k j : Nat) (ha : a.tl.size ≤ 3) (hb : b.hd.size ≤ 3) : (seamAt a b k j).size ≤ 6 := by
  unfold seamAt
  rw [ByteArray.size_append, ByteArray.size_extract, ByteArray.size_extract]
  omega
/-- What the loops of seam keep: the two measures, the answer's place, what has been told. -/
def SeamI (w : World) (a b : Wd) (st : Int × Int) (wr : World) : Prop :=
  (Blk wr w.heap.size #[.int .i64 a.b, .int .i64 a.r, .int .i64 a.u, .int .i64 a.e, .string a.hd, .string a.tl] 129 ∧ Blk wr (w.heap.size + 1) #[.int .i64 b.b, .int .i64 b.r, .int .i64 b.u, .int .i64 b.e, .string b.hd, .string b.tl] 129 ∧ Blk wr (w.heap.size + 1 + 1) #[.int .i64 0, .int .i64 0, .int .i64 0, .int .i64 0] 127 ∧
    Blk wr (w.heap.size + 1 + 1 + 1) #[.int .i64 0, .int .i64 st.1, .int .i64 st.2, .int .i64 0] 127) ∧ Below w.heap.size w wr
theorem SeamI.below {w : World} {a b : Wd} {st : Int × Int} {wr w2 : World} (h : SeamI w a b st wr) (hb : Below wr.heap.size wr w2) : SeamI w a b st w2 :=
  ⟨⟨h.1.1.below hb, h.1.2.1.below hb, h.1.2.2.1.below hb, h.1.2.2.2.below hb⟩, bl_then h.2 hb⟩
theorem SeamI.set {w : World} {a b : Wd} {st : Int × Int} {wr : World} (h : SeamI w a b st wr) (x y : Int) : SeamI w a b (x, y) ((wr.setCell ⟨w.heap.size + 1 + 1 + 1, 1, none⟩ (.int .i64 x)).setCell ⟨w.heap.size + 1 + 1 + 1, 2, none⟩ (.int .i64 y)) :=
  ⟨⟨(h.1.1.other (by simp <;> omega) _).other (by simp <;> omega) _, (h.1.2.1.other (by simp <;> omega) _).other (by simp <;> omega) _, (h.1.2.2.1.other (by simp) _).other (by simp) _, (h.1.2.2.2.set 1 _).set 2 _⟩, below_at_set (below_at_set h.2 (by simp <;> omega) _) (by simp <;> omega) _⟩

set_option maxRecDepth 100000 in
set_option maxHeartbeats 2000000 in
theorem seam_any (a b : Wd) (ha : a.tl.size ≤ 3) (hb : b.hd.size ≤ 3) (w : World) (he : Env w) :
    Calls Tryd.prog 96 #[.agg #[.int .i64 a.b, .int .i64 a.r, .int .i64 a.u, .int .i64 a.e, .string a.hd, .string a.tl], .agg #[.int .i64 b.b, .int .i64 b.r, .int .i64 b.u, .int .i64 b.e, .string b.hd, .string b.tl]] w fun e w' => e = .returned (.agg #[.int .i64 0, .int .i64 (allS a b a.tl.size).1, .int .i64 (allS a b a.tl.size).2, .int .i64 (seamEnd a b)]) ∧ Below w.heap.size w w' := by
  have HE := Lib.hid he
  clear he
  go_enter Tryd.func96, Tryd.ntmps96
  go_wp2
  go_loopw [6] (fun v wr => ∃ k : Nat, 1 ≤ k ∧ k ≤ a.tl.size + 1 ∧ v = .int .i64 k ∧ SeamI w a b (allS a b (k - 1)) wr) (fun v _ => a.tl.size + 1 - (intOf v).toNat)
  case atStart =>
    refine ⟨1, by omega, by omega, rfl, ⟨?_, ?_, ?_, ?_⟩, by (repeat (first | (with_reducible exact Below.refl _ _) | (with_reducible assumption) | (with_reducible apply bl_alloc) | (with_reducible apply bl_iter) | (with_reducible apply bl_drew) | (with_reducible apply bl_drewN) | (with_reducible refine bl_set ?_ (by first | assumption | (simp; done) | omega | (simp; omega)) _) | (with_reducible refine bl_then ?_ (by with_reducible assumption))))⟩
    · exact (((Blk.new w _ _).alloc _).alloc _).alloc _
    · exact ((Blk.new' (by simp) _ _).alloc _).alloc _
    · exact (Blk.new' (by simp) _ _).alloc _
    · exact Blk.new' (by simp) _ _
  case round =>
    obtain ⟨k, hk1, hk, rfl, hI⟩ := hrel
    have c5 : wr.cell? ⟨w.heap.size, 5, none⟩ = some (.string a.tl) := hI.1.1.cell 5
    by_cases hlt : k ≤ a.tl.size
    · go_wp2
      obtain ⟨wo, rfl⟩ : ∃ wo : World, wo = wr := ⟨_, rfl⟩
      go_loopw [7] (fun v wr => ∃ j : Nat, 1 ≤ j ∧ j ≤ b.hd.size + 1 ∧ v = .int .i64 j ∧ SeamI w a b (rowS a b (allS a b (k - 1)) k (j - 1)) wr) (fun v _ => b.hd.size + 1 - (intOf v).toNat)
      case atStart => exact ⟨1, by omega, by omega, rfl, hI⟩
      case round =>
        obtain ⟨j, hj1, hj, rfl, hI2⟩ := hrel
        clear hI c5
        have c5 : wr.cell? ⟨w.heap.size, 5, none⟩ = some (.string a.tl) := hI2.1.1.cell 5
        have d4 : wr.cell? ⟨w.heap.size + 1, 4, none⟩ = some (.string b.hd) := hI2.1.2.1.cell 4
        by_cases hlj : j ≤ b.hd.size
        · have hwr : IntKind.i64.wrap ((a.tl.size : Int) - (k : Int)) = ((a.tl.size - k : Nat) : Int) := by
            rw [IntWalk.i64_in _ (by omega)]; omega
          have hle : a.tl.size - k ≤ a.tl.size := Nat.sub_le _ _
          go_wp2
          go_still_tail 12, (by kernel_rfl)
          change wpList _ _ _ _ _ wr.drew
          have kb := string_bytes (seamAt a b k j)
          have hsa : a.tl.extract (a.tl.size - k) a.tl.size ++ b.hd.extract 0 j = seamAt a b k j := rfl
          have hs6 := seamAt_size a b k j ha hb
          have hbd : Below wr.heap.size wr wr.drew := (Below.refl _ _).drew
          have hbr : Below wr.heap.size wr (Lib.bytesWorld wr.drew 5 (seamAt a b k j)) := bytes_below hbd (Nat.le_refl _) 5 (seamAt a b k j)
          have hV : Calls Tryd.prog 102 #[.slice (some ⟨wr.heap.size, 0, none⟩) (seamAt a b k j).size (grownCap wr.drew (seamAt a b k j).size 0 5)] (Lib.bytesWorld wr.drew 5 (seamAt a b k j)) _ :=
            Value_any (some ⟨wr.drew.heap.size, 0, none⟩) _ _ (bytesOf (seamAt a b k j)) _ (HE.out.below (bl_then hI2.2 hbr)) (Bytes_bytesOf _) (bytes_reads wr.drew 5 (seamAt a b k j) (by omega)) (grownCap_ge _ _ _ _) (by omega)
          have HI := Lib.hid (fun (w2 : World) (h : Below wr.heap.size wr w2) => SeamI.below hI2 h)
          have hu := unitsOf_range (valueOf (bytesOf (seamAt a b k j)))
          have R := rowS_pos a b (allS a b (k - 1)) k j hj1
          unfold stepS seamVal at R
          clear hI2 hbd
          by_cases hv : 0 ≤ valueOf (bytesOf (seamAt a b k j))
          · rw [if_pos hv] at R
            have HR := Lib.hid R
            clear R
            go_wp2_with (first | (go_at_call 102; refine hV.mono ?_; clear hV; rintro e w2 ⟨rfl, hb2⟩; have hI3 := HI.out w2 (bl_then hbr hb2); have e1 := hI3.1.2.2.2.cell 1; have e2 := hI3.1.2.2.2.cell 2; have f1 := hI3.1.2.2.2.frozen 1; have f2 := hI3.1.2.2.2.frozen 2; simp only [List.getElem?_toArray, List.getElem?_cons_succ, List.getElem?_cons_zero] at e1 e2) | (go_at_call 89; refine (units_any _ _).mono ?_; rintro e w3 ⟨rfl, rfl⟩))
            go_roundw
            case rel => exact ⟨j + 1, by omega, by omega, by go_num, by rw [Nat.add_sub_cancel, HR.out]; exact hI3.set _ _⟩
            case measure => simp [intOf]; omega
          · rw [if_neg hv] at R
            have HR := Lib.hid R
            clear R
            go_wp2_with (first | (go_at_call 102; refine hV.mono ?_; clear hV; rintro e w2 ⟨rfl, hb2⟩; have hI3 := HI.out w2 (bl_then hbr hb2); have e1 := hI3.1.2.2.2.cell 1; have e2 := hI3.1.2.2.2.cell 2; have f1 := hI3.1.2.2.2.frozen 1; have f2 := hI3.1.2.2.2.frozen 2; simp only [List.getElem?_toArray, List.getElem?_cons_succ, List.getElem?_cons_zero] at e1 e2) | (go_at_call 89; refine (units_any _ _).mono ?_; rintro e w3 ⟨rfl, rfl⟩))
            go_roundw
            case rel => exact ⟨j + 1, by omega, by omega, by go_num, by rw [Nat.add_sub_cancel, HR.out]; exact hI3⟩
            case measure => simp [intOf]; omega
        · have hlj' : ¬ (j : Int) ≤ b.hd.size := by omega
          have R := Lib.hid (show SeamI w a b (allS a b (k + 1 - 1)) wr by rw [Nat.add_sub_cancel, allS_pos a b k hk1, show b.hd.size = j - 1 from by omega]; exact hI2)
          clear hI2 hlj
          go_wp2
          go_roundw
          case rel => exact ⟨k + 1, by omega, by omega, by go_num, R.out⟩
          case measure => simp [intOf]; omega
    · have hk' : k = a.tl.size + 1 := by omega
      rw [hk', Nat.add_sub_cancel] at hI
      have hge : ¬ (k : Int) ≤ a.tl.size := by omega
      have q0 : wr.cell? ⟨w.heap.size + 1 + 1 + 1, 0, none⟩ = some (.int .i64 0) := hI.1.2.2.2.cell 0
      have q1 : wr.cell? ⟨w.heap.size + 1 + 1 + 1, 1, none⟩ = some (.int .i64 (allS a b a.tl.size).1) := hI.1.2.2.2.cell 1
      have q2 : wr.cell? ⟨w.heap.size + 1 + 1 + 1, 2, none⟩ = some (.int .i64 (allS a b a.tl.size).2) := hI.1.2.2.2.cell 2
      have q3 : wr.cell? ⟨w.heap.size + 1 + 1 + 1, 3, none⟩ = some (.int .i64 0) := hI.1.2.2.2.cell 3
      have z0 : wr.cell? ⟨w.heap.size + 1 + 1, 0, none⟩ = some (.int .i64 0) := hI.1.2.2.1.cell 0
      have z1 : wr.cell? ⟨w.heap.size + 1 + 1, 1, none⟩ = some (.int .i64 0) := hI.1.2.2.1.cell 1
      have z2 : wr.cell? ⟨w.heap.size + 1 + 1, 2, none⟩ = some (.int .i64 0) := hI.1.2.2.1.cell 2
      have z3 : wr.cell? ⟨w.heap.size + 1 + 1, 3, none⟩ = some (.int .i64 0) := hI.1.2.2.1.cell 3
      have fz0 := hI.1.2.2.1.frozen 0
      have fz1 := hI.1.2.2.1.frozen 1
      have fz2 := hI.1.2.2.1.frozen 2
      have fz3 := hI.1.2.2.1.frozen 3
      have fq3 := hI.1.2.2.2.frozen 3
      have d4 : wr.cell? ⟨w.heap.size + 1, 4, none⟩ = some (.string b.hd) := hI.1.2.1.cell 4
      have hbl := hI.2
      clear hI hk hk1 hk' hlt
      have hse : seamEnd a b = if 0 < a.tl.size ∧ bt a.tl (a.tl.size - 1) = 13 ∧ 0 < b.hd.size ∧ bt b.hd 0 = 10 then 1 else 0 := rfl
      by_cases t0 : 0 < a.tl.size
      · have hT := fun w => tailIs_any a.tl 13 w t0 ha
        by_cases t1 : bt a.tl (a.tl.size - 1) = 13
        · have b1 : (bt a.tl (a.tl.size - 1) == 13) = true := by rw [beq_iff_eq]; exact t1
          rw [b1] at hT
          by_cases t2 : 0 < b.hd.size
          · have t2' : (0 : Int) < b.hd.size := by omega
            have hb0 : ((b.hd[0]'t2).toNat : Int) = bt b.hd 0 := bt_at b.hd 0 t2
            by_cases t3 : bt b.hd 0 = 10
            · rw [if_pos ⟨t0, t1, t2, t3⟩] at hse
              have b3 : (((b.hd[0]'t2).toNat : Int) == 10) = true := by rw [beq_iff_eq, hb0]; exact t3
              have HSE := Lib.hid hse
              clear hse t1 t3 b1 hb0
              go_wp2_with (go_at_call 103; refine (hT _).mono ?_; clear hT; rintro e w3 ⟨rfl, rfl⟩)
              exact bodyPost_ret (v := .agg #[.int .i64 0, .int .i64 (allS a b a.tl.size).1, .int .i64 (allS a b a.tl.size).2, .int .i64 1]) (by simp [results, Tryd.results96, go_sem, *]) rfl ⟨by rw [HSE.out], by (repeat (first | (with_reducible exact Below.refl _ _) | (with_reducible assumption) | (with_reducible apply bl_alloc) | (with_reducible apply bl_iter) | (with_reducible apply bl_drew) | (with_reducible apply bl_drewN) | (with_reducible refine bl_set ?_ (by first | assumption | (simp; done) | omega | (simp; omega)) _) | (with_reducible refine bl_then ?_ (by with_reducible assumption))))⟩
            · rw [if_neg (fun h => t3 h.2.2.2)] at hse
              have b3 : (((b.hd[0]'t2).toNat : Int) == 10) = false := by rw [beq_eq_false_iff_ne, hb0]; exact t3
              have HSE := Lib.hid hse
              clear hse t1 t3 b1 hb0
              go_wp2_with (go_at_call 103; refine (hT _).mono ?_; clear hT; rintro e w3 ⟨rfl, rfl⟩)
              exact bodyPost_ret (v := .agg #[.int .i64 0, .int .i64 (allS a b a.tl.size).1, .int .i64 (allS a b a.tl.size).2, .int .i64 0]) (by simp [results, Tryd.results96, go_sem, *]) rfl ⟨by rw [HSE.out], by (repeat (first | (with_reducible exact Below.refl _ _) | (with_reducible assumption) | (with_reducible apply bl_alloc) | (with_reducible apply bl_iter) | (with_reducible apply bl_drew) | (with_reducible apply bl_drewN) | (with_reducible refine bl_set ?_ (by first | assumption | (simp; done) | omega | (simp; omega)) _) | (with_reducible refine bl_then ?_ (by with_reducible assumption))))⟩
          · rw [if_neg (fun h => t2 h.2.2.1)] at hse
            have t2' : ¬ (0 : Int) < b.hd.size := by omega
            have HSE := Lib.hid hse
            clear hse t1 b1
            go_wp2_with (go_at_call 103; refine (hT _).mono ?_; clear hT; rintro e w3 ⟨rfl, rfl⟩)
            exact bodyPost_ret (v := .agg #[.int .i64 0, .int .i64 (allS a b a.tl.size).1, .int .i64 (allS a b a.tl.size).2, .int .i64 0]) (by simp [results, Tryd.results96, go_sem, *]) rfl ⟨by rw [HSE.out], by (repeat (first | (with_reducible exact Below.refl _ _) | (with_reducible assumption) | (with_reducible apply bl_alloc) | (with_reducible apply bl_iter) | (with_reducible apply bl_drew) | (with_reducible apply bl_drewN) | (with_reducible refine bl_set ?_ (by first | assumption | (simp; done) | omega | (simp; omega)) _) | (with_reducible refine bl_then ?_ (by with_reducible assumption))))⟩
        · have b1 : (bt a.tl (a.tl.size - 1) == 13) = false := by rw [beq_eq_false_iff_ne]; exact t1
          rw [b1] at hT
          rw [if_neg (fun h => t1 h.2.1)] at hse
          have HSE := Lib.hid hse
          clear hse t1 b1
          go_wp2_with (go_at_call 103; refine (hT _).mono ?_; clear hT; rintro e w3 ⟨rfl, rfl⟩)
          exact bodyPost_ret (v := .agg #[.int .i64 0, .int .i64 (allS a b a.tl.size).1, .int .i64 (allS a b a.tl.size).2, .int .i64 0]) (by simp [results, Tryd.results96, go_sem, *]) rfl ⟨by rw [HSE.out], by (repeat (first | (with_reducible exact Below.refl _ _) | (with_reducible assumption) | (with_reducible apply bl_alloc) | (with_reducible apply bl_iter) | (with_reducible apply bl_drew) | (with_reducible apply bl_drewN) | (with_reducible refine bl_set ?_ (by first | assumption | (simp; done) | omega | (simp; omega)) _) | (with_reducible refine bl_then ?_ (by with_reducible assumption))))⟩
      · have hT := fun w => tailIs_none a.tl 13 w (by omega)
        rw [if_neg (fun h => t0 h.1)] at hse
        have HSE := Lib.hid hse
        clear hse
        go_wp2_with (go_at_call 103; refine (hT _).mono ?_; clear hT; rintro e w3 ⟨rfl, rfl⟩)
        exact bodyPost_ret (v := .agg #[.int .i64 0, .int .i64 (allS a b a.tl.size).1, .int .i64 (allS a b a.tl.size).2, .int .i64 0]) (by simp [results, Tryd.results96, go_sem, *]) rfl ⟨by rw [HSE.out], by (repeat (first | (with_reducible exact Below.refl _ _) | (with_reducible assumption) | (with_reducible apply bl_alloc) | (with_reducible apply bl_iter) | (with_reducible apply bl_drew) | (with_reducible apply bl_drewN) | (with_reducible refine bl_set ?_ (by first | assumption | (simp; done) | omega | (simp; omega)) _) | (with_reducible refine bl_then ?_ (by with_reducible assumption))))⟩
end Go.Proofs.YtcjplgcnjfinoaaDoor
