/-
  NARROWER THAN 'FOR EVERY INPUT', by the rows' own cells (each row's printed sentence says how): FindFolds: laid · FindValid: laid · FindHits: laid · FindLong: laid · FindAnswers: laid · FindNil: laid · FindOwn: laid · FindReplaces: laid.
  DERIVED. THE GIVEN ROWS OF THIS SEAT. 8 by the template 'for every input the law returns true; each argument reads behind the call as it read before'; 0 by the template 'total and deterministic' (their statements: YtcjplgcnjfinoaaDoorTotals.lean).
  GIVEN WITH THE SEED: the statements are not yours to turn. If you find one false, say at which input.
  Laid BY PROGRAM, IN A SANDBOX (cutbox-rows.mjs): the forced cells as the released guide's own fill.sh prints them over the translation 143523c252192b48… (all of the seat's roots in one cut). By AI agents, Wed Nov 11 2026. No macro, syntax, notation, axiom, sorry.
-/
import Derived.Test.YtcjplgcnjfinoaaDoorChecked
import GoSem.Claim
import GoSem.ClaimJoined
import GoSem.ClaimMapViews
import Derived.JoinedTies
import Derived.KernelRfl
namespace Go.Proofs.YtcjplgcnjfinoaaDoor
/- THE CELL 'sum', in the pinned program and in every row, IS THE sha256 OF THE DUMP (.gsa) THAT YtcjplgcnjfinoaaDoorProg.lean LOADS. Nothing in Lean hashes anything: it is a label: what it is worth is what the hold of that sum in a sandbox is worth. -/
noncomputable def Tryd.pinned : Pinned := { name := "ytcjplgcnjfinoaadoor", sum := "143523c252192b4864414b22338a3d2b7c1c2ee4cd636b21a4faa41bd45005f3", checked := Tryd.checked }
namespace Rows
def none {H : Type} : Left H := { results := [], args := [] }

/- WHAT THE LISTED PACKAGE-LEVEL VARIABLES READ AS WHEN THE CALL BEGINS. Each datum BY PROGRAM (the guide's laid-datum.mjs) off the statement by which the dump's own 'gosem.cut.vars' lays the variable. In a bare row this is a premise. The card (YtcjplgcnjfinoaaDoorCards.lean) ties it to the program's text. -/
def laid_galley_octet_spans {H : Type} : DataW H := .agg [.agg [.lit (.int .i64 0), .lit (.int .i64 127), .lit (.int .i64 1)], .agg [.lit (.int .i64 128), .lit (.int .i64 191), .lit (.int .i64 2)], .agg [.lit (.int .i64 192), .lit (.int .i64 193), .lit (.int .i64 6)], .agg [.lit (.int .i64 194), .lit (.int .i64 223), .lit (.int .i64 3)], .agg [.lit (.int .i64 224), .lit (.int .i64 239), .lit (.int .i64 4)], .agg [.lit (.int .i64 240), .lit (.int .i64 244), .lit (.int .i64 5)], .agg [.lit (.int .i64 245), .lit (.int .i64 255), .lit (.int .i64 6)]]
def laid_galley_octet_needs {H : Type} : DataW H := .agg [.lit (.int .i64 0), .lit (.int .i64 1), .lit (.int .i64 0), .lit (.int .i64 2), .lit (.int .i64 3), .lit (.int .i64 4), .lit (.int .i64 0)]
def laid_galley_octet_masks {H : Type} : DataW H := .agg [.lit (.int .u8 0), .lit (.int .u8 127), .lit (.int .u8 31), .lit (.int .u8 15), .lit (.int .u8 7)]
def laid_galley_step_bad {H : Type} : DataW H := .agg [.lit (.int .i32 65533), .lit (.int .i64 1), .lit (.bool false)]

/-- 'galleylaw20.FindFolds': WHATEVER THE INPUT: true; the input reads as it did. -/
def findFoldsSpec : ChangeSpec := { name := "findFolds", fn := fun _ => fun
  | [d1, d2] => { results := [.lit (.bool true)], args := [d1, d2] }
  | _ => none }
def findFoldsRow : OpenClaim := { program := "ytcjplgcnjfinoaadoor", sum := "143523c252192b4864414b22338a3d2b7c1c2ee4cd636b21a4faa41bd45005f3", func := "galley/galleylaw20.FindFolds", spec := "findFolds", unfollowed := true, recurses := true, named := ["galley/step.bad", "galley/octet.masks", "galley/octet.needs", "galley/octet.spans"], apart := false, laid := [("galley/octet.spans", laid_galley_octet_spans), ("galley/octet.needs", laid_galley_octet_needs), ("galley/octet.masks", laid_galley_octet_masks), ("galley/step.bad", laid_galley_step_bad)] }
def FindFoldsSaid : Prop := findFoldsRow.holds Tryd.pinned (OpenSpec.ofChange findFoldsSpec)

/-- ITS FALSE NEIGHBOUR: 'it returns false'. Refute it at one input. -/
def findFoldsWrong : ChangeSpec := { name := "findFolds", fn := fun _ => fun
  | [d1, d2] => { results := [.lit (.bool false)], args := [d1, d2] }
  | _ => none }
def FindFoldsWrongFalsely : Prop := findFoldsRow.holds Tryd.pinned (OpenSpec.ofChange findFoldsWrong)

/-- 'galleylaw20.FindValid': WHATEVER THE INPUT: true; the input reads as it did. -/
def findValidSpec : ChangeSpec := { name := "findValid", fn := fun _ => fun
  | [d1, d2, d3] => { results := [.lit (.bool true)], args := [d1, d2, d3] }
  | _ => none }
def findValidRow : OpenClaim := { program := "ytcjplgcnjfinoaadoor", sum := "143523c252192b4864414b22338a3d2b7c1c2ee4cd636b21a4faa41bd45005f3", func := "galley/galleylaw20.FindValid", spec := "findValid", unfollowed := true, recurses := true, named := ["galley/step.bad", "galley/octet.masks", "galley/octet.needs", "galley/octet.spans"], apart := false, laid := [("galley/octet.spans", laid_galley_octet_spans), ("galley/octet.needs", laid_galley_octet_needs), ("galley/octet.masks", laid_galley_octet_masks), ("galley/step.bad", laid_galley_step_bad)] }
def FindValidSaid : Prop := findValidRow.holds Tryd.pinned (OpenSpec.ofChange findValidSpec)

/-- ITS FALSE NEIGHBOUR: 'it returns false'. Refute it at one input. -/
def findValidWrong : ChangeSpec := { name := "findValid", fn := fun _ => fun
  | [d1, d2, d3] => { results := [.lit (.bool false)], args := [d1, d2, d3] }
  | _ => none }
def FindValidWrongFalsely : Prop := findValidRow.holds Tryd.pinned (OpenSpec.ofChange findValidWrong)

/-- 'galleylaw20.FindHits': WHATEVER THE INPUT: true; the input reads as it did. -/
def findHitsSpec : ChangeSpec := { name := "findHits", fn := fun _ => fun
  | [d1, d2] => { results := [.lit (.bool true)], args := [d1, d2] }
  | _ => none }
def findHitsRow : OpenClaim := { program := "ytcjplgcnjfinoaadoor", sum := "143523c252192b4864414b22338a3d2b7c1c2ee4cd636b21a4faa41bd45005f3", func := "galley/galleylaw20.FindHits", spec := "findHits", unfollowed := true, recurses := true, named := ["galley/step.bad", "galley/octet.masks", "galley/octet.needs", "galley/octet.spans"], apart := false, laid := [("galley/octet.spans", laid_galley_octet_spans), ("galley/octet.needs", laid_galley_octet_needs), ("galley/octet.masks", laid_galley_octet_masks), ("galley/step.bad", laid_galley_step_bad)] }
def FindHitsSaid : Prop := findHitsRow.holds Tryd.pinned (OpenSpec.ofChange findHitsSpec)

/-- ITS FALSE NEIGHBOUR: 'it returns false'. Refute it at one input. -/
def findHitsWrong : ChangeSpec := { name := "findHits", fn := fun _ => fun
  | [d1, d2] => { results := [.lit (.bool false)], args := [d1, d2] }
  | _ => none }
def FindHitsWrongFalsely : Prop := findHitsRow.holds Tryd.pinned (OpenSpec.ofChange findHitsWrong)

/-- 'galleylaw20.FindLong': WHATEVER THE INPUT: true; the input reads as it did. -/
def findLongSpec : ChangeSpec := { name := "findLong", fn := fun _ => fun
  | [d1, d2, d3] => { results := [.lit (.bool true)], args := [d1, d2, d3] }
  | _ => none }
def findLongRow : OpenClaim := { program := "ytcjplgcnjfinoaadoor", sum := "143523c252192b4864414b22338a3d2b7c1c2ee4cd636b21a4faa41bd45005f3", func := "galley/galleylaw20.FindLong", spec := "findLong", unfollowed := true, recurses := true, named := ["galley/step.bad", "galley/octet.masks", "galley/octet.needs", "galley/octet.spans"], apart := false, laid := [("galley/octet.spans", laid_galley_octet_spans), ("galley/octet.needs", laid_galley_octet_needs), ("galley/octet.masks", laid_galley_octet_masks), ("galley/step.bad", laid_galley_step_bad)] }
def FindLongSaid : Prop := findLongRow.holds Tryd.pinned (OpenSpec.ofChange findLongSpec)

/-- ITS FALSE NEIGHBOUR: 'it returns false'. Refute it at one input. -/
def findLongWrong : ChangeSpec := { name := "findLong", fn := fun _ => fun
  | [d1, d2, d3] => { results := [.lit (.bool false)], args := [d1, d2, d3] }
  | _ => none }
def FindLongWrongFalsely : Prop := findLongRow.holds Tryd.pinned (OpenSpec.ofChange findLongWrong)

/-- 'galleylaw20.FindAnswers': WHATEVER THE INPUT: true; the input reads as it did. -/
def findAnswersSpec : ChangeSpec := { name := "findAnswers", fn := fun _ => fun
  | [d1, d2, d3] => { results := [.lit (.bool true)], args := [d1, d2, d3] }
  | _ => none }
def findAnswersRow : OpenClaim := { program := "ytcjplgcnjfinoaadoor", sum := "143523c252192b4864414b22338a3d2b7c1c2ee4cd636b21a4faa41bd45005f3", func := "galley/galleylaw20.FindAnswers", spec := "findAnswers", unfollowed := true, recurses := true, named := ["galley/step.bad", "galley/octet.masks", "galley/octet.needs", "galley/octet.spans"], apart := false, laid := [("galley/octet.spans", laid_galley_octet_spans), ("galley/octet.needs", laid_galley_octet_needs), ("galley/octet.masks", laid_galley_octet_masks), ("galley/step.bad", laid_galley_step_bad)] }
def FindAnswersSaid : Prop := findAnswersRow.holds Tryd.pinned (OpenSpec.ofChange findAnswersSpec)

/-- ITS FALSE NEIGHBOUR: 'it returns false'. Refute it at one input. -/
def findAnswersWrong : ChangeSpec := { name := "findAnswers", fn := fun _ => fun
  | [d1, d2, d3] => { results := [.lit (.bool false)], args := [d1, d2, d3] }
  | _ => none }
def FindAnswersWrongFalsely : Prop := findAnswersRow.holds Tryd.pinned (OpenSpec.ofChange findAnswersWrong)

/-- 'galleylaw20.FindNil': WHATEVER THE INPUT: true; the input reads as it did. -/
def findNilSpec : ChangeSpec := { name := "findNil", fn := fun _ => fun
  | [d1, d2, d3] => { results := [.lit (.bool true)], args := [d1, d2, d3] }
  | _ => none }
def findNilRow : OpenClaim := { program := "ytcjplgcnjfinoaadoor", sum := "143523c252192b4864414b22338a3d2b7c1c2ee4cd636b21a4faa41bd45005f3", func := "galley/galleylaw20.FindNil", spec := "findNil", unfollowed := true, recurses := true, named := ["galley/step.bad", "galley/octet.masks", "galley/octet.needs", "galley/octet.spans"], apart := false, laid := [("galley/octet.spans", laid_galley_octet_spans), ("galley/octet.needs", laid_galley_octet_needs), ("galley/octet.masks", laid_galley_octet_masks), ("galley/step.bad", laid_galley_step_bad)] }
def FindNilSaid : Prop := findNilRow.holds Tryd.pinned (OpenSpec.ofChange findNilSpec)

/-- ITS FALSE NEIGHBOUR: 'it returns false'. Refute it at one input. -/
def findNilWrong : ChangeSpec := { name := "findNil", fn := fun _ => fun
  | [d1, d2, d3] => { results := [.lit (.bool false)], args := [d1, d2, d3] }
  | _ => none }
def FindNilWrongFalsely : Prop := findNilRow.holds Tryd.pinned (OpenSpec.ofChange findNilWrong)

/-- 'galleylaw20.FindOwn': WHATEVER THE INPUT: true; the input reads as it did. -/
def findOwnSpec : ChangeSpec := { name := "findOwn", fn := fun _ => fun
  | [d1, d2, d3] => { results := [.lit (.bool true)], args := [d1, d2, d3] }
  | _ => none }
def findOwnRow : OpenClaim := { program := "ytcjplgcnjfinoaadoor", sum := "143523c252192b4864414b22338a3d2b7c1c2ee4cd636b21a4faa41bd45005f3", func := "galley/galleylaw20.FindOwn", spec := "findOwn", unfollowed := true, recurses := true, named := ["galley/step.bad", "galley/octet.masks", "galley/octet.needs", "galley/octet.spans"], apart := false, laid := [("galley/octet.spans", laid_galley_octet_spans), ("galley/octet.needs", laid_galley_octet_needs), ("galley/octet.masks", laid_galley_octet_masks), ("galley/step.bad", laid_galley_step_bad)] }
def FindOwnSaid : Prop := findOwnRow.holds Tryd.pinned (OpenSpec.ofChange findOwnSpec)

/-- ITS FALSE NEIGHBOUR: 'it returns false'. Refute it at one input. -/
def findOwnWrong : ChangeSpec := { name := "findOwn", fn := fun _ => fun
  | [d1, d2, d3] => { results := [.lit (.bool false)], args := [d1, d2, d3] }
  | _ => none }
def FindOwnWrongFalsely : Prop := findOwnRow.holds Tryd.pinned (OpenSpec.ofChange findOwnWrong)

/-- 'galleylaw20.FindReplaces': WHATEVER THE INPUT: true; the input reads as it did. -/
def findReplacesSpec : ChangeSpec := { name := "findReplaces", fn := fun _ => fun
  | [d1, d2, d3] => { results := [.lit (.bool true)], args := [d1, d2, d3] }
  | _ => none }
def findReplacesRow : OpenClaim := { program := "ytcjplgcnjfinoaadoor", sum := "143523c252192b4864414b22338a3d2b7c1c2ee4cd636b21a4faa41bd45005f3", func := "galley/galleylaw20.FindReplaces", spec := "findReplaces", unfollowed := true, recurses := true, named := ["galley/step.bad", "galley/octet.masks", "galley/octet.needs", "galley/octet.spans"], apart := false, laid := [("galley/octet.spans", laid_galley_octet_spans), ("galley/octet.needs", laid_galley_octet_needs), ("galley/octet.masks", laid_galley_octet_masks), ("galley/step.bad", laid_galley_step_bad)] }
def FindReplacesSaid : Prop := findReplacesRow.holds Tryd.pinned (OpenSpec.ofChange findReplacesSpec)

/-- ITS FALSE NEIGHBOUR: 'it returns false'. Refute it at one input. -/
def findReplacesWrong : ChangeSpec := { name := "findReplaces", fn := fun _ => fun
  | [d1, d2, d3] => { results := [.lit (.bool false)], args := [d1, d2, d3] }
  | _ => none }
def FindReplacesWrongFalsely : Prop := findReplacesRow.holds Tryd.pinned (OpenSpec.ofChange findReplacesWrong)

/- THE SECOND FORM. 'bulk': how many values and letters a reading holds, each counted each time it is reached (what is shared counts as often as it is met; a slice's spare places count too). A statement '..UptoSaid' is the law's where the arguments, and the package variables that the reading takes, are together of bulk at most 1048576: NARROWER than '..Said'. Prove '..Said' where nothing that the law and all that it calls make is longer than what came in: it says more and counts as full. Else prove '..UptoSaid'. A law counts once. -/
mutual
def uptoBulk {H : Type} : DataW H → Nat
  | .lit (.string bytes) => bytes.length + 1
  | .lit _ => 1
  | .nil => 1
  | .ptr d => uptoBulk d + 1
  | .slice elems spare => uptoBulkAll elems + uptoBulkAll spare + 1
  | .agg parts => uptoBulkAll parts + 1
  | .iface _ d => uptoBulk d + 1
  | .map entries => uptoBulkEntries entries + 1
  | .held _ => 1
def uptoBulkAll {H : Type} : List (DataW H) → Nat
  | [] => 0
  | d :: r => uptoBulk d + uptoBulkAll r
def uptoBulkEntries {H : Type} : List (Lit × DataW H) → Nat
  | [] => 0
  | x :: r => uptoBulkEntry x + uptoBulkEntries r
def uptoBulkEntry {H : Type} : Lit × DataW H → Nat
  | (.string bytes, d) => bytes.length + uptoBulk d + 1
  | (_, d) => uptoBulk d + 1
 end
def uptoSmall : (H : Type) → List (DataW H) → Bool := fun _ ds => decide (uptoBulkAll ds ≤ 1048576)
def OpenSpec.upto (s : _root_.Go.ChangeSpec) : _root_.Go.OpenSpec := { _root_.Go.OpenSpec.ofChange s with cond := some uptoSmall }

/-- 'galleylaw20.FindFolds', WHERE WHAT IT READS IS OF BULK AT MOST 1048576: true; the input reads as it did. -/
def findFoldsUptoRow : OpenClaim := { program := "ytcjplgcnjfinoaadoor", sum := "143523c252192b4864414b22338a3d2b7c1c2ee4cd636b21a4faa41bd45005f3", func := "galley/galleylaw20.FindFolds", spec := "findFolds", unfollowed := true, recurses := true, named := ["galley/step.bad", "galley/octet.masks", "galley/octet.needs", "galley/octet.spans"], apart := false, laid := [("galley/octet.spans", laid_galley_octet_spans), ("galley/octet.needs", laid_galley_octet_needs), ("galley/octet.masks", laid_galley_octet_masks), ("galley/step.bad", laid_galley_step_bad)], narrowed := true }
def FindFoldsUptoSaid : Prop := findFoldsUptoRow.holds Tryd.pinned (OpenSpec.upto findFoldsSpec)

/-- 'galleylaw20.FindValid', WHERE WHAT IT READS IS OF BULK AT MOST 1048576: true; the input reads as it did. -/
def findValidUptoRow : OpenClaim := { program := "ytcjplgcnjfinoaadoor", sum := "143523c252192b4864414b22338a3d2b7c1c2ee4cd636b21a4faa41bd45005f3", func := "galley/galleylaw20.FindValid", spec := "findValid", unfollowed := true, recurses := true, named := ["galley/step.bad", "galley/octet.masks", "galley/octet.needs", "galley/octet.spans"], apart := false, laid := [("galley/octet.spans", laid_galley_octet_spans), ("galley/octet.needs", laid_galley_octet_needs), ("galley/octet.masks", laid_galley_octet_masks), ("galley/step.bad", laid_galley_step_bad)], narrowed := true }
def FindValidUptoSaid : Prop := findValidUptoRow.holds Tryd.pinned (OpenSpec.upto findValidSpec)

/-- 'galleylaw20.FindHits', WHERE WHAT IT READS IS OF BULK AT MOST 1048576: true; the input reads as it did. -/
def findHitsUptoRow : OpenClaim := { program := "ytcjplgcnjfinoaadoor", sum := "143523c252192b4864414b22338a3d2b7c1c2ee4cd636b21a4faa41bd45005f3", func := "galley/galleylaw20.FindHits", spec := "findHits", unfollowed := true, recurses := true, named := ["galley/step.bad", "galley/octet.masks", "galley/octet.needs", "galley/octet.spans"], apart := false, laid := [("galley/octet.spans", laid_galley_octet_spans), ("galley/octet.needs", laid_galley_octet_needs), ("galley/octet.masks", laid_galley_octet_masks), ("galley/step.bad", laid_galley_step_bad)], narrowed := true }
def FindHitsUptoSaid : Prop := findHitsUptoRow.holds Tryd.pinned (OpenSpec.upto findHitsSpec)

/-- 'galleylaw20.FindLong', WHERE WHAT IT READS IS OF BULK AT MOST 1048576: true; the input reads as it did. -/
def findLongUptoRow : OpenClaim := { program := "ytcjplgcnjfinoaadoor", sum := "143523c252192b4864414b22338a3d2b7c1c2ee4cd636b21a4faa41bd45005f3", func := "galley/galleylaw20.FindLong", spec := "findLong", unfollowed := true, recurses := true, named := ["galley/step.bad", "galley/octet.masks", "galley/octet.needs", "galley/octet.spans"], apart := false, laid := [("galley/octet.spans", laid_galley_octet_spans), ("galley/octet.needs", laid_galley_octet_needs), ("galley/octet.masks", laid_galley_octet_masks), ("galley/step.bad", laid_galley_step_bad)], narrowed := true }
def FindLongUptoSaid : Prop := findLongUptoRow.holds Tryd.pinned (OpenSpec.upto findLongSpec)

/-- 'galleylaw20.FindAnswers', WHERE WHAT IT READS IS OF BULK AT MOST 1048576: true; the input reads as it did. -/
def findAnswersUptoRow : OpenClaim := { program := "ytcjplgcnjfinoaadoor", sum := "143523c252192b4864414b22338a3d2b7c1c2ee4cd636b21a4faa41bd45005f3", func := "galley/galleylaw20.FindAnswers", spec := "findAnswers", unfollowed := true, recurses := true, named := ["galley/step.bad", "galley/octet.masks", "galley/octet.needs", "galley/octet.spans"], apart := false, laid := [("galley/octet.spans", laid_galley_octet_spans), ("galley/octet.needs", laid_galley_octet_needs), ("galley/octet.masks", laid_galley_octet_masks), ("galley/step.bad", laid_galley_step_bad)], narrowed := true }
def FindAnswersUptoSaid : Prop := findAnswersUptoRow.holds Tryd.pinned (OpenSpec.upto findAnswersSpec)

/-- 'galleylaw20.FindNil', WHERE WHAT IT READS IS OF BULK AT MOST 1048576: true; the input reads as it did. -/
def findNilUptoRow : OpenClaim := { program := "ytcjplgcnjfinoaadoor", sum := "143523c252192b4864414b22338a3d2b7c1c2ee4cd636b21a4faa41bd45005f3", func := "galley/galleylaw20.FindNil", spec := "findNil", unfollowed := true, recurses := true, named := ["galley/step.bad", "galley/octet.masks", "galley/octet.needs", "galley/octet.spans"], apart := false, laid := [("galley/octet.spans", laid_galley_octet_spans), ("galley/octet.needs", laid_galley_octet_needs), ("galley/octet.masks", laid_galley_octet_masks), ("galley/step.bad", laid_galley_step_bad)], narrowed := true }
def FindNilUptoSaid : Prop := findNilUptoRow.holds Tryd.pinned (OpenSpec.upto findNilSpec)

/-- 'galleylaw20.FindOwn', WHERE WHAT IT READS IS OF BULK AT MOST 1048576: true; the input reads as it did. -/
def findOwnUptoRow : OpenClaim := { program := "ytcjplgcnjfinoaadoor", sum := "143523c252192b4864414b22338a3d2b7c1c2ee4cd636b21a4faa41bd45005f3", func := "galley/galleylaw20.FindOwn", spec := "findOwn", unfollowed := true, recurses := true, named := ["galley/step.bad", "galley/octet.masks", "galley/octet.needs", "galley/octet.spans"], apart := false, laid := [("galley/octet.spans", laid_galley_octet_spans), ("galley/octet.needs", laid_galley_octet_needs), ("galley/octet.masks", laid_galley_octet_masks), ("galley/step.bad", laid_galley_step_bad)], narrowed := true }
def FindOwnUptoSaid : Prop := findOwnUptoRow.holds Tryd.pinned (OpenSpec.upto findOwnSpec)

/-- 'galleylaw20.FindReplaces', WHERE WHAT IT READS IS OF BULK AT MOST 1048576: true; the input reads as it did. -/
def findReplacesUptoRow : OpenClaim := { program := "ytcjplgcnjfinoaadoor", sum := "143523c252192b4864414b22338a3d2b7c1c2ee4cd636b21a4faa41bd45005f3", func := "galley/galleylaw20.FindReplaces", spec := "findReplaces", unfollowed := true, recurses := true, named := ["galley/step.bad", "galley/octet.masks", "galley/octet.needs", "galley/octet.spans"], apart := false, laid := [("galley/octet.spans", laid_galley_octet_spans), ("galley/octet.needs", laid_galley_octet_needs), ("galley/octet.masks", laid_galley_octet_masks), ("galley/step.bad", laid_galley_step_bad)], narrowed := true }
def FindReplacesUptoSaid : Prop := findReplacesUptoRow.holds Tryd.pinned (OpenSpec.upto findReplacesSpec)

end Rows
end Go.Proofs.YtcjplgcnjfinoaaDoor
