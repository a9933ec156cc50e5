/-
  No cell of these rows narrows 'for every input' (looked for: loops, veiled, ifaces, maps, wideKeys, modest, calm, conditions, laid).
  DERIVED. THE GIVEN ROWS OF THIS SEAT. 10 by the template 'for every input the law returns true; each argument reads behind the call as it read before'; 0 by the template 'total and deterministic' (their statements: YtdaabndngcebgaaTotals.lean).
  GIVEN WITH THE SEED: the statements are not yours to turn. If you find one false, say at which input.
  Laid BY PROGRAM, IN A SANDBOX (cutbox-rows.mjs): the forced cells as the released guide's own fill.sh prints them over the translation adb66fd05824a3dd… (all of the seat's roots in one cut). By AI agents, Wed Nov 11 2026. No macro, syntax, notation, axiom, sorry.
-/
import Derived.Test.YtdaabndngcebgaaChecked
import GoSem.Claim
import GoSem.ClaimJoined
import GoSem.ClaimMapViews
import Derived.JoinedTies
import Derived.KernelRfl
namespace Go.Proofs.Ytdaabndngcebgaa
/- THE CELL 'sum', in the pinned program and in every row, IS THE sha256 OF THE DUMP (.gsa) THAT YtdaabndngcebgaaProg.lean LOADS. Nothing in Lean hashes anything: it is a label: what it is worth is what the hold of that sum in a sandbox is worth. -/
noncomputable def Try.pinned : Pinned := { name := "ytdaabndngcebgaa", sum := "adb66fd05824a3dd3a821092afdc5d163d71800cfa981cd5c3a63f7e2d7a6389", checked := Try.checked }
namespace Rows
def none {H : Type} : Left H := { results := [], args := [] }

/-- 'laws.FnExactCountChanges': WHATEVER THE INPUT: true; the input reads as it did. -/
def fnExactCountChangesSpec : ChangeSpec := { name := "fnExactCountChanges", fn := fun _ => fun
  | [d1, d2] => { results := [.lit (.bool true)], args := [d1, d2] }
  | _ => none }
def fnExactCountChangesRow : OpenClaim := { program := "ytdaabndngcebgaa", sum := "adb66fd05824a3dd3a821092afdc5d163d71800cfa981cd5c3a63f7e2d7a6389", func := "loop.example/g03414/laws.FnExactCountChanges", spec := "fnExactCountChanges", apart := false }
def FnExactCountChangesSaid : Prop := fnExactCountChangesRow.holds Try.pinned (OpenSpec.ofChange fnExactCountChangesSpec)

/-- ITS FALSE NEIGHBOUR: 'it returns false'. Refute it at one input. -/
def fnExactCountChangesWrong : ChangeSpec := { name := "fnExactCountChanges", fn := fun _ => fun
  | [d1, d2] => { results := [.lit (.bool false)], args := [d1, d2] }
  | _ => none }
def FnExactCountChangesWrongFalsely : Prop := fnExactCountChangesRow.holds Try.pinned (OpenSpec.ofChange fnExactCountChangesWrong)

/-- 'laws.FnExactLastStable': WHATEVER THE INPUT: true; the input reads as it did. -/
def fnExactLastStableSpec : ChangeSpec := { name := "fnExactLastStable", fn := fun _ => fun
  | [d1, d2, d3] => { results := [.lit (.bool true)], args := [d1, d2, d3] }
  | _ => none }
def fnExactLastStableRow : OpenClaim := { program := "ytdaabndngcebgaa", sum := "adb66fd05824a3dd3a821092afdc5d163d71800cfa981cd5c3a63f7e2d7a6389", func := "loop.example/g03414/laws.FnExactLastStable", spec := "fnExactLastStable", apart := false }
def FnExactLastStableSaid : Prop := fnExactLastStableRow.holds Try.pinned (OpenSpec.ofChange fnExactLastStableSpec)

/-- ITS FALSE NEIGHBOUR: 'it returns false'. Refute it at one input. -/
def fnExactLastStableWrong : ChangeSpec := { name := "fnExactLastStable", fn := fun _ => fun
  | [d1, d2, d3] => { results := [.lit (.bool false)], args := [d1, d2, d3] }
  | _ => none }
def FnExactLastStableWrongFalsely : Prop := fnExactLastStableRow.holds Try.pinned (OpenSpec.ofChange fnExactLastStableWrong)

/-- 'laws.FnStable': WHATEVER THE INPUT: true; the input reads as it did. -/
def fnStableSpec : ChangeSpec := { name := "fnStable", fn := fun _ => fun
  | [d] => { results := [.lit (.bool true)], args := [d] }
  | _ => none }
def fnStableRow : OpenClaim := { program := "ytdaabndngcebgaa", sum := "adb66fd05824a3dd3a821092afdc5d163d71800cfa981cd5c3a63f7e2d7a6389", func := "loop.example/g03414/laws.FnStable", spec := "fnStable", apart := false }
def FnStableSaid : Prop := fnStableRow.holds Try.pinned (OpenSpec.ofChange fnStableSpec)

/-- ITS FALSE NEIGHBOUR: 'it returns false'. Refute it at one input. -/
def fnStableWrong : ChangeSpec := { name := "fnStable", fn := fun _ => fun
  | [d] => { results := [.lit (.bool false)], args := [d] }
  | _ => none }
def FnStableWrongFalsely : Prop := fnStableRow.holds Try.pinned (OpenSpec.ofChange fnStableWrong)

/-- 'laws.FnExactIsSpaced': WHATEVER THE INPUT: true; the input reads as it did. -/
def fnExactIsSpacedSpec : ChangeSpec := { name := "fnExactIsSpaced", fn := fun _ => fun
  | [d1, d2, d3] => { results := [.lit (.bool true)], args := [d1, d2, d3] }
  | _ => none }
def fnExactIsSpacedRow : OpenClaim := { program := "ytdaabndngcebgaa", sum := "adb66fd05824a3dd3a821092afdc5d163d71800cfa981cd5c3a63f7e2d7a6389", func := "loop.example/g03414/laws.FnExactIsSpaced", spec := "fnExactIsSpaced", apart := false }
def FnExactIsSpacedSaid : Prop := fnExactIsSpacedRow.holds Try.pinned (OpenSpec.ofChange fnExactIsSpacedSpec)

/-- ITS FALSE NEIGHBOUR: 'it returns false'. Refute it at one input. -/
def fnExactIsSpacedWrong : ChangeSpec := { name := "fnExactIsSpaced", fn := fun _ => fun
  | [d1, d2, d3] => { results := [.lit (.bool false)], args := [d1, d2, d3] }
  | _ => none }
def FnExactIsSpacedWrongFalsely : Prop := fnExactIsSpacedRow.holds Try.pinned (OpenSpec.ofChange fnExactIsSpacedWrong)

/-- 'laws.FnExactIsDebouncer': WHATEVER THE INPUT: true; the input reads as it did. -/
def fnExactIsDebouncerSpec : ChangeSpec := { name := "fnExactIsDebouncer", fn := fun _ => fun
  | [d] => { results := [.lit (.bool true)], args := [d] }
  | _ => none }
def fnExactIsDebouncerRow : OpenClaim := { program := "ytdaabndngcebgaa", sum := "adb66fd05824a3dd3a821092afdc5d163d71800cfa981cd5c3a63f7e2d7a6389", func := "loop.example/g03414/laws.FnExactIsDebouncer", spec := "fnExactIsDebouncer", apart := false }
def FnExactIsDebouncerSaid : Prop := fnExactIsDebouncerRow.holds Try.pinned (OpenSpec.ofChange fnExactIsDebouncerSpec)

/-- ITS FALSE NEIGHBOUR: 'it returns false'. Refute it at one input. -/
def fnExactIsDebouncerWrong : ChangeSpec := { name := "fnExactIsDebouncer", fn := fun _ => fun
  | [d] => { results := [.lit (.bool false)], args := [d] }
  | _ => none }
def FnExactIsDebouncerWrongFalsely : Prop := fnExactIsDebouncerRow.holds Try.pinned (OpenSpec.ofChange fnExactIsDebouncerWrong)

/-- 'laws.FnExactNewDebouncer': WHATEVER THE INPUT: true; the input reads as it did. -/
def fnExactNewDebouncerSpec : ChangeSpec := { name := "fnExactNewDebouncer", fn := fun _ => fun
  | [d1, d2, d3] => { results := [.lit (.bool true)], args := [d1, d2, d3] }
  | _ => none }
def fnExactNewDebouncerRow : OpenClaim := { program := "ytdaabndngcebgaa", sum := "adb66fd05824a3dd3a821092afdc5d163d71800cfa981cd5c3a63f7e2d7a6389", func := "loop.example/g03414/laws.FnExactNewDebouncer", spec := "fnExactNewDebouncer", apart := false }
def FnExactNewDebouncerSaid : Prop := fnExactNewDebouncerRow.holds Try.pinned (OpenSpec.ofChange fnExactNewDebouncerSpec)

/-- ITS FALSE NEIGHBOUR: 'it returns false'. Refute it at one input. -/
def fnExactNewDebouncerWrong : ChangeSpec := { name := "fnExactNewDebouncer", fn := fun _ => fun
  | [d1, d2, d3] => { results := [.lit (.bool false)], args := [d1, d2, d3] }
  | _ => none }
def FnExactNewDebouncerWrongFalsely : Prop := fnExactNewDebouncerRow.holds Try.pinned (OpenSpec.ofChange fnExactNewDebouncerWrong)

/-- 'laws.FnSteady': WHATEVER THE INPUT: true; the input reads as it did. -/
def fnSteadySpec : ChangeSpec := { name := "fnSteady", fn := fun _ => fun
  | [d] => { results := [.lit (.bool true)], args := [d] }
  | _ => none }
def fnSteadyRow : OpenClaim := { program := "ytdaabndngcebgaa", sum := "adb66fd05824a3dd3a821092afdc5d163d71800cfa981cd5c3a63f7e2d7a6389", func := "loop.example/g03414/laws.FnSteady", spec := "fnSteady", apart := false }
def FnSteadySaid : Prop := fnSteadyRow.holds Try.pinned (OpenSpec.ofChange fnSteadySpec)

/-- ITS FALSE NEIGHBOUR: 'it returns false'. Refute it at one input. -/
def fnSteadyWrong : ChangeSpec := { name := "fnSteady", fn := fun _ => fun
  | [d] => { results := [.lit (.bool false)], args := [d] }
  | _ => none }
def FnSteadyWrongFalsely : Prop := fnSteadyRow.holds Try.pinned (OpenSpec.ofChange fnSteadyWrong)

/-- 'laws.FnExactDebounceStep': WHATEVER THE INPUT: true; the input reads as it did. -/
def fnExactDebounceStepSpec : ChangeSpec := { name := "fnExactDebounceStep", fn := fun _ => fun
  | [d1, d2] => { results := [.lit (.bool true)], args := [d1, d2] }
  | _ => none }
def fnExactDebounceStepRow : OpenClaim := { program := "ytdaabndngcebgaa", sum := "adb66fd05824a3dd3a821092afdc5d163d71800cfa981cd5c3a63f7e2d7a6389", func := "loop.example/g03414/laws.FnExactDebounceStep", spec := "fnExactDebounceStep", apart := false }
def FnExactDebounceStepSaid : Prop := fnExactDebounceStepRow.holds Try.pinned (OpenSpec.ofChange fnExactDebounceStepSpec)

/-- ITS FALSE NEIGHBOUR: 'it returns false'. Refute it at one input. -/
def fnExactDebounceStepWrong : ChangeSpec := { name := "fnExactDebounceStep", fn := fun _ => fun
  | [d1, d2] => { results := [.lit (.bool false)], args := [d1, d2] }
  | _ => none }
def FnExactDebounceStepWrongFalsely : Prop := fnExactDebounceStepRow.holds Try.pinned (OpenSpec.ofChange fnExactDebounceStepWrong)

/-- 'laws.FnFewer': WHATEVER THE INPUT: true; the input reads as it did. -/
def fnFewerSpec : ChangeSpec := { name := "fnFewer", fn := fun _ => fun
  | [d] => { results := [.lit (.bool true)], args := [d] }
  | _ => none }
def fnFewerRow : OpenClaim := { program := "ytdaabndngcebgaa", sum := "adb66fd05824a3dd3a821092afdc5d163d71800cfa981cd5c3a63f7e2d7a6389", func := "loop.example/g03414/laws.FnFewer", spec := "fnFewer", apart := false }
def FnFewerSaid : Prop := fnFewerRow.holds Try.pinned (OpenSpec.ofChange fnFewerSpec)

/-- ITS FALSE NEIGHBOUR: 'it returns false'. Refute it at one input. -/
def fnFewerWrong : ChangeSpec := { name := "fnFewer", fn := fun _ => fun
  | [d] => { results := [.lit (.bool false)], args := [d] }
  | _ => none }
def FnFewerWrongFalsely : Prop := fnFewerRow.holds Try.pinned (OpenSpec.ofChange fnFewerWrong)

/-- 'laws.FnExactDebounceRun': WHATEVER THE INPUT: true; the input reads as it did. -/
def fnExactDebounceRunSpec : ChangeSpec := { name := "fnExactDebounceRun", fn := fun _ => fun
  | [d1, d2] => { results := [.lit (.bool true)], args := [d1, d2] }
  | _ => none }
def fnExactDebounceRunRow : OpenClaim := { program := "ytdaabndngcebgaa", sum := "adb66fd05824a3dd3a821092afdc5d163d71800cfa981cd5c3a63f7e2d7a6389", func := "loop.example/g03414/laws.FnExactDebounceRun", spec := "fnExactDebounceRun", apart := false }
def FnExactDebounceRunSaid : Prop := fnExactDebounceRunRow.holds Try.pinned (OpenSpec.ofChange fnExactDebounceRunSpec)

/-- ITS FALSE NEIGHBOUR: 'it returns false'. Refute it at one input. -/
def fnExactDebounceRunWrong : ChangeSpec := { name := "fnExactDebounceRun", fn := fun _ => fun
  | [d1, d2] => { results := [.lit (.bool false)], args := [d1, d2] }
  | _ => none }
def FnExactDebounceRunWrongFalsely : Prop := fnExactDebounceRunRow.holds Try.pinned (OpenSpec.ofChange fnExactDebounceRunWrong)

/- THE SECOND FORM. 'bulk': how many values and letters a reading holds, each counted each time it is reached (what is shared counts as often as it is met; a slice's spare places count too). A statement '..UptoSaid' is the law's where the arguments, and the package variables that the reading takes, are together of bulk at most 1048576: NARROWER than '..Said'. Prove '..Said' where nothing that the law and all that it calls make is longer than what came in: it says more and counts as full. Else prove '..UptoSaid'. A law counts once. -/
mutual
def uptoBulk {H : Type} : DataW H → Nat
  | .lit (.string bytes) => bytes.length + 1
  | .lit _ => 1
  | .nil => 1
  | .ptr d => uptoBulk d + 1
  | .slice elems spare => uptoBulkAll elems + uptoBulkAll spare + 1
  | .agg parts => uptoBulkAll parts + 1
  | .iface _ d => uptoBulk d + 1
  | .map entries => uptoBulkEntries entries + 1
  | .held _ => 1
def uptoBulkAll {H : Type} : List (DataW H) → Nat
  | [] => 0
  | d :: r => uptoBulk d + uptoBulkAll r
def uptoBulkEntries {H : Type} : List (Lit × DataW H) → Nat
  | [] => 0
  | x :: r => uptoBulkEntry x + uptoBulkEntries r
def uptoBulkEntry {H : Type} : Lit × DataW H → Nat
  | (.string bytes, d) => bytes.length + uptoBulk d + 1
  | (_, d) => uptoBulk d + 1
 end
def uptoSmall : (H : Type) → List (DataW H) → Bool := fun _ ds => decide (uptoBulkAll ds ≤ 1048576)
def OpenSpec.upto (s : _root_.Go.ChangeSpec) : _root_.Go.OpenSpec := { _root_.Go.OpenSpec.ofChange s with cond := some uptoSmall }

/-- 'laws.FnExactCountChanges', WHERE WHAT IT READS IS OF BULK AT MOST 1048576: true; the input reads as it did. -/
def fnExactCountChangesUptoRow : OpenClaim := { program := "ytdaabndngcebgaa", sum := "adb66fd05824a3dd3a821092afdc5d163d71800cfa981cd5c3a63f7e2d7a6389", func := "loop.example/g03414/laws.FnExactCountChanges", spec := "fnExactCountChanges", apart := false, narrowed := true }
def FnExactCountChangesUptoSaid : Prop := fnExactCountChangesUptoRow.holds Try.pinned (OpenSpec.upto fnExactCountChangesSpec)

/-- 'laws.FnExactLastStable', WHERE WHAT IT READS IS OF BULK AT MOST 1048576: true; the input reads as it did. -/
def fnExactLastStableUptoRow : OpenClaim := { program := "ytdaabndngcebgaa", sum := "adb66fd05824a3dd3a821092afdc5d163d71800cfa981cd5c3a63f7e2d7a6389", func := "loop.example/g03414/laws.FnExactLastStable", spec := "fnExactLastStable", apart := false, narrowed := true }
def FnExactLastStableUptoSaid : Prop := fnExactLastStableUptoRow.holds Try.pinned (OpenSpec.upto fnExactLastStableSpec)

/-- 'laws.FnStable', WHERE WHAT IT READS IS OF BULK AT MOST 1048576: true; the input reads as it did. -/
def fnStableUptoRow : OpenClaim := { program := "ytdaabndngcebgaa", sum := "adb66fd05824a3dd3a821092afdc5d163d71800cfa981cd5c3a63f7e2d7a6389", func := "loop.example/g03414/laws.FnStable", spec := "fnStable", apart := false, narrowed := true }
def FnStableUptoSaid : Prop := fnStableUptoRow.holds Try.pinned (OpenSpec.upto fnStableSpec)

/-- 'laws.FnExactIsSpaced', WHERE WHAT IT READS IS OF BULK AT MOST 1048576: true; the input reads as it did. -/
def fnExactIsSpacedUptoRow : OpenClaim := { program := "ytdaabndngcebgaa", sum := "adb66fd05824a3dd3a821092afdc5d163d71800cfa981cd5c3a63f7e2d7a6389", func := "loop.example/g03414/laws.FnExactIsSpaced", spec := "fnExactIsSpaced", apart := false, narrowed := true }
def FnExactIsSpacedUptoSaid : Prop := fnExactIsSpacedUptoRow.holds Try.pinned (OpenSpec.upto fnExactIsSpacedSpec)

/-- 'laws.FnExactIsDebouncer', WHERE WHAT IT READS IS OF BULK AT MOST 1048576: true; the input reads as it did. -/
def fnExactIsDebouncerUptoRow : OpenClaim := { program := "ytdaabndngcebgaa", sum := "adb66fd05824a3dd3a821092afdc5d163d71800cfa981cd5c3a63f7e2d7a6389", func := "loop.example/g03414/laws.FnExactIsDebouncer", spec := "fnExactIsDebouncer", apart := false, narrowed := true }
def FnExactIsDebouncerUptoSaid : Prop := fnExactIsDebouncerUptoRow.holds Try.pinned (OpenSpec.upto fnExactIsDebouncerSpec)

/-- 'laws.FnExactNewDebouncer', WHERE WHAT IT READS IS OF BULK AT MOST 1048576: true; the input reads as it did. -/
def fnExactNewDebouncerUptoRow : OpenClaim := { program := "ytdaabndngcebgaa", sum := "adb66fd05824a3dd3a821092afdc5d163d71800cfa981cd5c3a63f7e2d7a6389", func := "loop.example/g03414/laws.FnExactNewDebouncer", spec := "fnExactNewDebouncer", apart := false, narrowed := true }
def FnExactNewDebouncerUptoSaid : Prop := fnExactNewDebouncerUptoRow.holds Try.pinned (OpenSpec.upto fnExactNewDebouncerSpec)

/-- 'laws.FnSteady', WHERE WHAT IT READS IS OF BULK AT MOST 1048576: true; the input reads as it did. -/
def fnSteadyUptoRow : OpenClaim := { program := "ytdaabndngcebgaa", sum := "adb66fd05824a3dd3a821092afdc5d163d71800cfa981cd5c3a63f7e2d7a6389", func := "loop.example/g03414/laws.FnSteady", spec := "fnSteady", apart := false, narrowed := true }
def FnSteadyUptoSaid : Prop := fnSteadyUptoRow.holds Try.pinned (OpenSpec.upto fnSteadySpec)

/-- 'laws.FnExactDebounceStep', WHERE WHAT IT READS IS OF BULK AT MOST 1048576: true; the input reads as it did. -/
def fnExactDebounceStepUptoRow : OpenClaim := { program := "ytdaabndngcebgaa", sum := "adb66fd05824a3dd3a821092afdc5d163d71800cfa981cd5c3a63f7e2d7a6389", func := "loop.example/g03414/laws.FnExactDebounceStep", spec := "fnExactDebounceStep", apart := false, narrowed := true }
def FnExactDebounceStepUptoSaid : Prop := fnExactDebounceStepUptoRow.holds Try.pinned (OpenSpec.upto fnExactDebounceStepSpec)

/-- 'laws.FnFewer', WHERE WHAT IT READS IS OF BULK AT MOST 1048576: true; the input reads as it did. -/
def fnFewerUptoRow : OpenClaim := { program := "ytdaabndngcebgaa", sum := "adb66fd05824a3dd3a821092afdc5d163d71800cfa981cd5c3a63f7e2d7a6389", func := "loop.example/g03414/laws.FnFewer", spec := "fnFewer", apart := false, narrowed := true }
def FnFewerUptoSaid : Prop := fnFewerUptoRow.holds Try.pinned (OpenSpec.upto fnFewerSpec)

/-- 'laws.FnExactDebounceRun', WHERE WHAT IT READS IS OF BULK AT MOST 1048576: true; the input reads as it did. -/
def fnExactDebounceRunUptoRow : OpenClaim := { program := "ytdaabndngcebgaa", sum := "adb66fd05824a3dd3a821092afdc5d163d71800cfa981cd5c3a63f7e2d7a6389", func := "loop.example/g03414/laws.FnExactDebounceRun", spec := "fnExactDebounceRun", apart := false, narrowed := true }
def FnExactDebounceRunUptoSaid : Prop := fnExactDebounceRunUptoRow.holds Try.pinned (OpenSpec.upto fnExactDebounceRunSpec)

end Rows
end Go.Proofs.Ytdaabndngcebgaa
