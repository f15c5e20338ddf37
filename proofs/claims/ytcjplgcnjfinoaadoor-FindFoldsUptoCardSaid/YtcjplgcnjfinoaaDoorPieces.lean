/- A range over an iterator that yields pieces of bytes which it has just laid: what a round and the iterator owe one another. No condition. -/
import Derived.Test.YtcjplgcnjfinoaaDoorIter
namespace Go.Proofs.YtcjplgcnjfinoaaDoor
open Go.RowKit Go.Shelf Go.Proofs.YtcjplgcnjfinoaaDoorW.PrintWords Go.Proofs.YtcjplgcnjfinoaaDoorW.PrintMore

/-- A piece: a slice, and the bytes that lie in it. -/
structure Pc where
  A : Option Addr
  k : Nat
  c : Nat
  xs : List Int
def Pc.args (p : Pc) : Array Value := #[.slice p.A p.k p.c]
def Pc.In (W : World) (p : Pc) : Prop := ReadsInt W .u8 p.A p.k p.xs ∧ p.k ≤ p.c ∧ 1 ≤ p.k
theorem reads_turn {W : World} {A : Option Addr} {n : Nat} {xs : List Int} (h : ReadsInt W .u8 A n xs) {l : Nat} {o : Obj} (o' : Obj) (hl : W.heap[l]? = some o) (ho : o.isCells = false) : ReadsInt (W.putObj l o') .u8 A n xs :=
  ⟨h.1, h.2.1, fun hn => by
    obtain ⟨ad, e, hc⟩ := h.2.2 hn
    exact ⟨ad, e, fun j hj => cell_kept (hc j hj) (grownBy_putObj' W l o') (fun r hr => by cases hr; exact ⟨o, hl, ho⟩)⟩⟩
theorem yield_any {P : Program} {m m' l : Nat} {args : Array Value} {W : World} {R : Ending → World → Prop} (h : YieldAt Fence.wide m P l args W R) : YieldAt Fence.wide m' P l args W R := by
  obtain ⟨fn, tmps, assign, body, hy, hf, hr⟩ := h
  exact ⟨fn, tmps, assign, body, hy, hf, fun c cs _ => hr c cs (room_wide _)⟩

/-- What the loop's round promises the iterator: a yield of a piece that lies in memory goes on, or stops. -/
def Rounds (P : Program) (l n₀ : Nat) (L : List (List Int)) (J Jx : List (List Int) → World → Prop) : Prop :=
  ∀ (m : Nat) (pre : List (List Int)) (p : Pc) (W : World), J pre W → p.In W → (pre ++ [p.xs]) <+: L → YieldAt Fence.wide m P l p.args W fun e W' =>
    (e = .returned (.bool true) ∧ J (pre ++ [p.xs]) W' ∧ Below n₀ W W') ∨ (e = .returned (.bool false) ∧ Jx (pre ++ [p.xs]) W')

set_option maxRecDepth 100000 in
theorem wpIn_pieces {P : Program} {n : Nat} {g : Operand} {t : Tmp} {assign body : Code} {Q : Exit → Act → World → Prop} {a : Act} {w : World} {gf : Nat} {lb : Array Value}
    (hg : a.eval g = .func (.func gf) #[] lb) (eg : ∀ args w, (callFunc gf args).run P w = .ok (.enter gf args) w) (n₀ : Nat) (hn₀ : n₀ ≤ w.heap.size) (L : List (List Int))
    (hseq : ∀ (l : Nat) (J Jx : List (List Int) → World → Prop) (W : World), Below w.heap.size w W → (∀ pre X Y, J pre X → Below X.heap.size X Y → J pre Y) → Rounds P l n₀ L J Jx → J [] W →
      CallsIn Fence.wide (n - 1) P gf (#[.func (.yield l) #[] #[]] ++ lb) W fun e W' => (∃ v, e = .returned v) ∧ (J L W' ∨ ∃ pre, Jx pre W'))
    (I : List (List Int) → World → Prop) (Ix : Code → List (List Int) → World → Prop) (hI : OwnFrom w.heap.size I) (hIx : ∀ c, OwnFrom w.heap.size (Ix c)) (h0 : I [] w) (Ax : Pc → Act → Prop)
    (hassign : ∀ (l m : Nat) (p : Pc) (W : World) (K : Act → World → Prop), (∀ a', Ax p a' → K a' W) →
      assign.wpIn (Fence.wide.inRound l) m P (Exit.then K (fun _ _ _ => False)) { tmps := (#[t].zip p.args).foldl (fun t (p, v) => t.setIfInBounds p v) a.tmps, defers := [] } W)
    (hbody : ∀ (l m : Nat) (pre : List (List Int)) (p : Pc) (a' : Act) (W : World), I pre W → p.In W → Ax p a' → (pre ++ [p.xs]) <+: L → body.wpIn (Fence.wide.inRound l) m P (ownPostG w.heap.size (Below n₀) I Ix (pre ++ [p.xs]) W) a' W)
    (hdone : ∀ (D : Nat) (W : World), w.heap.size ≤ D → I L W → W.heap[D]? = some (.deferred (some [])) → Q .normal { a with defers := { target := .collected D, args := #[] } :: a.defers } W)
    (hstop : ∀ (D : Nat) (c : Code) (pre : List (List Int)) (W : World), w.heap.size ≤ D → Ix c pre W → W.heap[D]? = some (.deferred (some [])) → c.wpIn Fence.wide n P Q { a with defers := { target := .collected D, args := #[] } :: a.defers } W) :
    (Code.rangeFunc g #[t] assign body).wpIn Fence.wide n P Q a w := by
  refine wpIn_rangeFunc fun fn _ => ?_
  let rec0 : LoopState → Option Code → Loop := fun st pe => { state := st, pending := pe, fn, tmps := a.tmps, params := #[t], assign, body, defers := w.heap.size }
  let W1 : World := (w.alloc (.deferred (some []))).alloc (.loop (rec0 .ready none))
  have hL1 : W1.heap[w.heap.size + 1]? = some (.loop (rec0 .ready none)) := by
    have := World.alloc_heap_new (w.alloc (.deferred (some []))) (.loop (rec0 .ready none)); rwa [World.size_alloc] at this
  have hK1 : W1.heap[w.heap.size]? = some (.deferred (some [])) := (Below.heap_alloc _ _ _ (by simp)).trans (World.alloc_heap_new w _)
  have hI1 : I [] W1 := hI.alloc _ (hI.alloc _ h0)
  have hb1 : Below w.heap.size w W1 := ((Below.refl _ w).alloc (Nat.le_refl _) _).alloc (by simp) _
  refine ⟨w.heap.size + 1, [{ target := .collected w.heap.size, args := #[] }], W1, { target := .fn (.func gf) lb, args := #[.func (.yield (w.heap.size + 1)) #[] #[]] }, W1, gf,
    #[.func (.yield (w.heap.size + 1)) #[] #[]] ++ lb, W1, run_enterLoop_outer _ _ _ _ _, ?_, ?_, ?_, fun h => by simp [Fence.wide] at h, ?_⟩
  · simp only [resolve, hg]
    simp [go_sem]
  · intro f' _; trivial
  · simp [invoke, go_sem, eg]
  · refine (hseq (w.heap.size + 1)
      (fun pre W => I pre W ∧ W.heap[w.heap.size + 1]? = some (.loop (rec0 .ready none)) ∧ W.heap[w.heap.size]? = some (.deferred (some [])))
      (fun pre W => ∃ c, Ix c pre W ∧ W.heap[w.heap.size + 1]? = some (.loop (rec0 .done (some c))) ∧ W.heap[w.heap.size]? = some (.deferred (some [])))
      W1 hb1 ?_ ?_ ⟨hI1, hL1, hK1⟩).mono ?_
    · rintro pre X Y ⟨h1, h2, h3⟩ hb
      exact ⟨hI _ _ _ none h1 (grown_of_below hb none) (fun r e => by cases e), (hb.block _ (Array.getElem?_eq_some_iff.1 h2).1).trans h2, (hb.block _ (Array.getElem?_eq_some_iff.1 h3).1).trans h3⟩
    · rintro m pre p W ⟨hi, hl, hk⟩ hin hpre
      have hlt : w.heap.size + 1 < W.heap.size := (Array.getElem?_eq_some_iff.1 hl).1
      have hy := run_yield (P := P) (args := p.args) hl rfl
      refine ⟨fn, _, assign, body, hy, roundIn_of_wpIn trivial (hassign _ m p W _ ?_)⟩
      intro a' hax
      refine ⟨_, run_beginRound hl rfl, ?_⟩
      have hl2 : (W.putObj (w.heap.size + 1) (.loop { rec0 .ready none with state := .busy })).heap[w.heap.size + 1]? = some (.loop { rec0 .ready none with state := .busy }) := World.putObj_heap_same hlt
      have hk2 : (W.putObj (w.heap.size + 1) (.loop { rec0 .ready none with state := .busy })).heap[w.heap.size]? = some (.deferred (some [])) := (World.putObj_heap_other (by omega)).trans hk
      have hw2 : Below n₀ W (W.putObj (w.heap.size + 1) (.loop { rec0 .ready none with state := .busy })) := belowK_b hn₀ _ _ _ _ (by omega) hl rfl rfl
      refine wpIn_mono (hbody _ m pre p a' _ (hI.putObj _ hi (by omega) hl rfl) ⟨reads_turn hin.1 _ hl rfl, hin.2⟩ hax hpre) ?_
      have fin : ∀ (jump : Option Code) (W3 : World), KeepsFrom w.heap.size (W.putObj (w.heap.size + 1) (.loop { rec0 .ready none with state := .busy })) W3 →
          (Instr.endRound (w.heap.size + 1) jump).run P W3 = .ok (.bool jump.isNone) (W3.putObj (w.heap.size + 1) (.loop (rec0 (if jump.isNone then .ready else .done) jump))) ∧
          W3.heap[w.heap.size + 1]? = some (.loop { rec0 .ready none with state := .busy }) ∧
          (W3.putObj (w.heap.size + 1) (.loop (rec0 (if jump.isNone then .ready else .done) jump))).heap[w.heap.size + 1]? = some (.loop (rec0 (if jump.isNone then .ready else .done) jump)) ∧
          (W3.putObj (w.heap.size + 1) (.loop (rec0 (if jump.isNone then .ready else .done) jump))).heap[w.heap.size]? = some (.deferred (some [])) := fun jump W3 hk3 => by
        have hl3 := hk3.same _ _ (by omega) hl2 rfl
        exact ⟨run_endRound (P := P) jump hl3, hl3, World.putObj_heap_same (Array.getElem?_eq_some_iff.1 hl3).1, (World.putObj_heap_other (by omega)).trans (hk3.same _ _ (Nat.le_refl _) hk2 rfl)⟩
      have out : ∀ (c : Code) (W3 : World), KeepsFrom w.heap.size (W.putObj (w.heap.size + 1) (.loop { rec0 .ready none with state := .busy })) W3 → Ix c (pre ++ [p.xs]) W3 → ∃ v W', (Instr.endRound (w.heap.size + 1) (some c)).run P W3 = .ok v W' ∧ v = .bool false ∧
          ∃ c, Ix c (pre ++ [p.xs]) W' ∧ W'.heap[w.heap.size + 1]? = some (.loop (rec0 .done (some c))) ∧ W'.heap[w.heap.size]? = some (.deferred (some [])) := fun c W3 hk3 hi3 => by
        obtain ⟨hr, hl3, hl4, hk4⟩ := fin (some c) W3 hk3
        exact ⟨_, _, hr, rfl, c, (hIx _).putObj _ hi3 (by omega) hl3 rfl, hl4, hk4⟩
      rintro e a3 W3 hp
      cases e with
      | normal =>
        obtain ⟨hk3, hkp3, hi3⟩ := hp
        obtain ⟨hr, hl3, hl4, hk4⟩ := fin none W3 hk3
        exact ⟨_, _, hr, .inl ⟨rfl, ⟨hI.putObj _ hi3 (by omega) hl3 rfl, hl4, hk4⟩, (hw2.trans hkp3).trans (belowK_b hn₀ _ _ _ _ (by omega) hl3 rfl rfl)⟩⟩
      | ret => obtain ⟨v, W', h1, rfl, h2⟩ := out _ W3 hp.1 hp.2; exact ⟨_, _, h1, .inr ⟨rfl, h2⟩⟩
      | exit id => obtain ⟨v, W', h1, rfl, h2⟩ := out _ W3 hp.1 hp.2; exact ⟨_, _, h1, .inr ⟨rfl, h2⟩⟩
      | goto t => obtain ⟨v, W', h1, rfl, h2⟩ := out _ W3 hp.1 hp.2; exact ⟨_, _, h1, .inr ⟨rfl, h2⟩⟩
      | panic ch => exact hp.elim
      | outgrown => exact hp.elim
    · rintro e W2 ⟨⟨v, rfl⟩, (⟨hi, hl, hk⟩ | ⟨pre, c, hi, hl, hk⟩)⟩
      · exact ⟨none, _, run_endLoop (P := P) hl (by simp [rec0]), hdone _ _ (Nat.le_refl _) (hI.putObj _ hi (by omega) hl rfl) ((World.putObj_heap_other (by omega)).trans hk)⟩
      · exact ⟨some c, _, run_endLoop (P := P) hl (by simp [rec0]), hstop _ c pre _ (Nat.le_refl _) ((hIx c).putObj _ hi (by omega) hl rfl) ((World.putObj_heap_other (by omega)).trans hk)⟩
end Go.Proofs.YtcjplgcnjfinoaaDoor
