/-
  No cell of these rows narrows 'for every input' (looked for: loops, veiled, ifaces, maps, wideKeys, modest, calm, conditions, laid).
  DERIVED. THE GIVEN ROWS OF THIS SEAT. 12 by the template 'for every input the law returns true; each argument reads behind the call as it read before'; 0 by the template 'total and deterministic' (their statements: YtkfpnckhfdmjfaaTotals.lean).
  GIVEN WITH THE SEED: the statements are not yours to turn. If you find one false, say at which input.
  Laid BY PROGRAM, IN A SANDBOX (cutbox-rows.mjs): the forced cells as the released guide's own fill.sh prints them over the translation 571a21ec3f5cc194… (all of the seat's roots in one cut). By AI agents, Wed Nov 11 2026. No macro, syntax, notation, axiom, sorry.
-/
import Derived.Test.YtkfpnckhfdmjfaaChecked
import GoSem.Claim
import GoSem.ClaimJoined
import GoSem.ClaimMapViews
import Derived.JoinedTies
import Derived.KernelRfl
namespace Go.Proofs.Ytkfpnckhfdmjfaa
/- THE CELL 'sum', in the pinned program and in every row, IS THE sha256 OF THE DUMP (.gsa) THAT YtkfpnckhfdmjfaaProg.lean LOADS. Nothing in Lean hashes anything: it is a label: what it is worth is what the hold of that sum in a sandbox is worth. -/
noncomputable def Try.pinned : Pinned := { name := "ytkfpnckhfdmjfaa", sum := "571a21ec3f5cc194cb6f9c1476d6f56c91d7adc95019620b0e6934fd74a754f8", checked := Try.checked }
namespace Rows
def none {H : Type} : Left H := { results := [], args := [] }

/-- 'laws.FnExactFormatMods': WHATEVER THE INPUT: true; the input reads as it did. -/
def fnExactFormatModsSpec : ChangeSpec := { name := "fnExactFormatMods", fn := fun _ => fun
  | [d] => { results := [.lit (.bool true)], args := [d] }
  | _ => none }
def fnExactFormatModsRow : OpenClaim := { program := "ytkfpnckhfdmjfaa", sum := "571a21ec3f5cc194cb6f9c1476d6f56c91d7adc95019620b0e6934fd74a754f8", func := "loop.example/g03414/laws.FnExactFormatMods", spec := "fnExactFormatMods", apart := false }
def FnExactFormatModsSaid : Prop := fnExactFormatModsRow.holds Try.pinned (OpenSpec.ofChange fnExactFormatModsSpec)

/-- ITS FALSE NEIGHBOUR: 'it returns false'. Refute it at one input. -/
def fnExactFormatModsWrong : ChangeSpec := { name := "fnExactFormatMods", fn := fun _ => fun
  | [d] => { results := [.lit (.bool false)], args := [d] }
  | _ => none }
def FnExactFormatModsWrongFalsely : Prop := fnExactFormatModsRow.holds Try.pinned (OpenSpec.ofChange fnExactFormatModsWrong)

/-- 'laws.FnExactFormatHex': WHATEVER THE INPUT: true; the input reads as it did. -/
def fnExactFormatHexSpec : ChangeSpec := { name := "fnExactFormatHex", fn := fun _ => fun
  | [d] => { results := [.lit (.bool true)], args := [d] }
  | _ => none }
def fnExactFormatHexRow : OpenClaim := { program := "ytkfpnckhfdmjfaa", sum := "571a21ec3f5cc194cb6f9c1476d6f56c91d7adc95019620b0e6934fd74a754f8", func := "loop.example/g03414/laws.FnExactFormatHex", spec := "fnExactFormatHex", apart := false }
def FnExactFormatHexSaid : Prop := fnExactFormatHexRow.holds Try.pinned (OpenSpec.ofChange fnExactFormatHexSpec)

/-- ITS FALSE NEIGHBOUR: 'it returns false'. Refute it at one input. -/
def fnExactFormatHexWrong : ChangeSpec := { name := "fnExactFormatHex", fn := fun _ => fun
  | [d] => { results := [.lit (.bool false)], args := [d] }
  | _ => none }
def FnExactFormatHexWrongFalsely : Prop := fnExactFormatHexRow.holds Try.pinned (OpenSpec.ofChange fnExactFormatHexWrong)

/-- 'laws.FnExactParseMods': WHATEVER THE INPUT: true; the input reads as it did. -/
def fnExactParseModsSpec : ChangeSpec := { name := "fnExactParseMods", fn := fun _ => fun
  | [d] => { results := [.lit (.bool true)], args := [d] }
  | _ => none }
def fnExactParseModsRow : OpenClaim := { program := "ytkfpnckhfdmjfaa", sum := "571a21ec3f5cc194cb6f9c1476d6f56c91d7adc95019620b0e6934fd74a754f8", func := "loop.example/g03414/laws.FnExactParseMods", spec := "fnExactParseMods", apart := false }
def FnExactParseModsSaid : Prop := fnExactParseModsRow.holds Try.pinned (OpenSpec.ofChange fnExactParseModsSpec)

/-- ITS FALSE NEIGHBOUR: 'it returns false'. Refute it at one input. -/
def fnExactParseModsWrong : ChangeSpec := { name := "fnExactParseMods", fn := fun _ => fun
  | [d] => { results := [.lit (.bool false)], args := [d] }
  | _ => none }
def FnExactParseModsWrongFalsely : Prop := fnExactParseModsRow.holds Try.pinned (OpenSpec.ofChange fnExactParseModsWrong)

/-- 'laws.FnExactIsAction': WHATEVER THE INPUT: true; the input reads as it did. -/
def fnExactIsActionSpec : ChangeSpec := { name := "fnExactIsAction", fn := fun _ => fun
  | [d] => { results := [.lit (.bool true)], args := [d] }
  | _ => none }
def fnExactIsActionRow : OpenClaim := { program := "ytkfpnckhfdmjfaa", sum := "571a21ec3f5cc194cb6f9c1476d6f56c91d7adc95019620b0e6934fd74a754f8", func := "loop.example/g03414/laws.FnExactIsAction", spec := "fnExactIsAction", apart := false }
def FnExactIsActionSaid : Prop := fnExactIsActionRow.holds Try.pinned (OpenSpec.ofChange fnExactIsActionSpec)

/-- ITS FALSE NEIGHBOUR: 'it returns false'. Refute it at one input. -/
def fnExactIsActionWrong : ChangeSpec := { name := "fnExactIsAction", fn := fun _ => fun
  | [d] => { results := [.lit (.bool false)], args := [d] }
  | _ => none }
def FnExactIsActionWrongFalsely : Prop := fnExactIsActionRow.holds Try.pinned (OpenSpec.ofChange fnExactIsActionWrong)

/-- 'laws.FnExactSplitText': WHATEVER THE INPUT: true; the input reads as it did. -/
def fnExactSplitTextSpec : ChangeSpec := { name := "fnExactSplitText", fn := fun _ => fun
  | [d1, d2] => { results := [.lit (.bool true)], args := [d1, d2] }
  | _ => none }
def fnExactSplitTextRow : OpenClaim := { program := "ytkfpnckhfdmjfaa", sum := "571a21ec3f5cc194cb6f9c1476d6f56c91d7adc95019620b0e6934fd74a754f8", func := "loop.example/g03414/laws.FnExactSplitText", spec := "fnExactSplitText", apart := false }
def FnExactSplitTextSaid : Prop := fnExactSplitTextRow.holds Try.pinned (OpenSpec.ofChange fnExactSplitTextSpec)

/-- ITS FALSE NEIGHBOUR: 'it returns false'. Refute it at one input. -/
def fnExactSplitTextWrong : ChangeSpec := { name := "fnExactSplitText", fn := fun _ => fun
  | [d1, d2] => { results := [.lit (.bool false)], args := [d1, d2] }
  | _ => none }
def FnExactSplitTextWrongFalsely : Prop := fnExactSplitTextRow.holds Try.pinned (OpenSpec.ofChange fnExactSplitTextWrong)

/-- 'laws.FnExactIsTapHold': WHATEVER THE INPUT: true; the input reads as it did. -/
def fnExactIsTapHoldSpec : ChangeSpec := { name := "fnExactIsTapHold", fn := fun _ => fun
  | [d] => { results := [.lit (.bool true)], args := [d] }
  | _ => none }
def fnExactIsTapHoldRow : OpenClaim := { program := "ytkfpnckhfdmjfaa", sum := "571a21ec3f5cc194cb6f9c1476d6f56c91d7adc95019620b0e6934fd74a754f8", func := "loop.example/g03414/laws.FnExactIsTapHold", spec := "fnExactIsTapHold", apart := false }
def FnExactIsTapHoldSaid : Prop := fnExactIsTapHoldRow.holds Try.pinned (OpenSpec.ofChange fnExactIsTapHoldSpec)

/-- ITS FALSE NEIGHBOUR: 'it returns false'. Refute it at one input. -/
def fnExactIsTapHoldWrong : ChangeSpec := { name := "fnExactIsTapHold", fn := fun _ => fun
  | [d] => { results := [.lit (.bool false)], args := [d] }
  | _ => none }
def FnExactIsTapHoldWrongFalsely : Prop := fnExactIsTapHoldRow.holds Try.pinned (OpenSpec.ofChange fnExactIsTapHoldWrong)

/-- 'laws.FnExactParseHex': WHATEVER THE INPUT: true; the input reads as it did. -/
def fnExactParseHexSpec : ChangeSpec := { name := "fnExactParseHex", fn := fun _ => fun
  | [d] => { results := [.lit (.bool true)], args := [d] }
  | _ => none }
def fnExactParseHexRow : OpenClaim := { program := "ytkfpnckhfdmjfaa", sum := "571a21ec3f5cc194cb6f9c1476d6f56c91d7adc95019620b0e6934fd74a754f8", func := "loop.example/g03414/laws.FnExactParseHex", spec := "fnExactParseHex", inPlace := ["internal/bytealg.IndexByteString"], apart := false }
def FnExactParseHexSaid : Prop := fnExactParseHexRow.holds Try.pinned (OpenSpec.ofChange fnExactParseHexSpec)

/-- ITS FALSE NEIGHBOUR: 'it returns false'. Refute it at one input. -/
def fnExactParseHexWrong : ChangeSpec := { name := "fnExactParseHex", fn := fun _ => fun
  | [d] => { results := [.lit (.bool false)], args := [d] }
  | _ => none }
def FnExactParseHexWrongFalsely : Prop := fnExactParseHexRow.holds Try.pinned (OpenSpec.ofChange fnExactParseHexWrong)

/-- 'laws.FnExactTapOf': WHATEVER THE INPUT: true; the input reads as it did. -/
def fnExactTapOfSpec : ChangeSpec := { name := "fnExactTapOf", fn := fun _ => fun
  | [d] => { results := [.lit (.bool true)], args := [d] }
  | _ => none }
def fnExactTapOfRow : OpenClaim := { program := "ytkfpnckhfdmjfaa", sum := "571a21ec3f5cc194cb6f9c1476d6f56c91d7adc95019620b0e6934fd74a754f8", func := "loop.example/g03414/laws.FnExactTapOf", spec := "fnExactTapOf", apart := false }
def FnExactTapOfSaid : Prop := fnExactTapOfRow.holds Try.pinned (OpenSpec.ofChange fnExactTapOfSpec)

/-- ITS FALSE NEIGHBOUR: 'it returns false'. Refute it at one input. -/
def fnExactTapOfWrong : ChangeSpec := { name := "fnExactTapOf", fn := fun _ => fun
  | [d] => { results := [.lit (.bool false)], args := [d] }
  | _ => none }
def FnExactTapOfWrongFalsely : Prop := fnExactTapOfRow.holds Try.pinned (OpenSpec.ofChange fnExactTapOfWrong)

/-- 'laws.FnExactHoldOf': WHATEVER THE INPUT: true; the input reads as it did. -/
def fnExactHoldOfSpec : ChangeSpec := { name := "fnExactHoldOf", fn := fun _ => fun
  | [d] => { results := [.lit (.bool true)], args := [d] }
  | _ => none }
def fnExactHoldOfRow : OpenClaim := { program := "ytkfpnckhfdmjfaa", sum := "571a21ec3f5cc194cb6f9c1476d6f56c91d7adc95019620b0e6934fd74a754f8", func := "loop.example/g03414/laws.FnExactHoldOf", spec := "fnExactHoldOf", apart := false }
def FnExactHoldOfSaid : Prop := fnExactHoldOfRow.holds Try.pinned (OpenSpec.ofChange fnExactHoldOfSpec)

/-- ITS FALSE NEIGHBOUR: 'it returns false'. Refute it at one input. -/
def fnExactHoldOfWrong : ChangeSpec := { name := "fnExactHoldOf", fn := fun _ => fun
  | [d] => { results := [.lit (.bool false)], args := [d] }
  | _ => none }
def FnExactHoldOfWrongFalsely : Prop := fnExactHoldOfRow.holds Try.pinned (OpenSpec.ofChange fnExactHoldOfWrong)

/-- 'laws.FnExactPackAction': WHATEVER THE INPUT: true; the input reads as it did. -/
def fnExactPackActionSpec : ChangeSpec := { name := "fnExactPackAction", fn := fun _ => fun
  | [d] => { results := [.lit (.bool true)], args := [d] }
  | _ => none }
def fnExactPackActionRow : OpenClaim := { program := "ytkfpnckhfdmjfaa", sum := "571a21ec3f5cc194cb6f9c1476d6f56c91d7adc95019620b0e6934fd74a754f8", func := "loop.example/g03414/laws.FnExactPackAction", spec := "fnExactPackAction", apart := false }
def FnExactPackActionSaid : Prop := fnExactPackActionRow.holds Try.pinned (OpenSpec.ofChange fnExactPackActionSpec)

/-- ITS FALSE NEIGHBOUR: 'it returns false'. Refute it at one input. -/
def fnExactPackActionWrong : ChangeSpec := { name := "fnExactPackAction", fn := fun _ => fun
  | [d] => { results := [.lit (.bool false)], args := [d] }
  | _ => none }
def FnExactPackActionWrongFalsely : Prop := fnExactPackActionRow.holds Try.pinned (OpenSpec.ofChange fnExactPackActionWrong)

/-- 'laws.FnExactJoinText': WHATEVER THE INPUT: true; the input reads as it did. -/
def fnExactJoinTextSpec : ChangeSpec := { name := "fnExactJoinText", fn := fun _ => fun
  | [d1, d2] => { results := [.lit (.bool true)], args := [d1, d2] }
  | _ => none }
def fnExactJoinTextRow : OpenClaim := { program := "ytkfpnckhfdmjfaa", sum := "571a21ec3f5cc194cb6f9c1476d6f56c91d7adc95019620b0e6934fd74a754f8", func := "loop.example/g03414/laws.FnExactJoinText", spec := "fnExactJoinText", inPlace := ["internal/abi.NoEscape", "internal/bytealg.MakeNoZero"], apart := false }
def FnExactJoinTextSaid : Prop := fnExactJoinTextRow.holds Try.pinned (OpenSpec.ofChange fnExactJoinTextSpec)

/-- ITS FALSE NEIGHBOUR: 'it returns false'. Refute it at one input. -/
def fnExactJoinTextWrong : ChangeSpec := { name := "fnExactJoinText", fn := fun _ => fun
  | [d1, d2] => { results := [.lit (.bool false)], args := [d1, d2] }
  | _ => none }
def FnExactJoinTextWrongFalsely : Prop := fnExactJoinTextRow.holds Try.pinned (OpenSpec.ofChange fnExactJoinTextWrong)

/-- 'laws.FnParts': WHATEVER THE INPUT: true; the input reads as it did. -/
def fnPartsSpec : ChangeSpec := { name := "fnParts", fn := fun _ => fun
  | [d] => { results := [.lit (.bool true)], args := [d] }
  | _ => none }
def fnPartsRow : OpenClaim := { program := "ytkfpnckhfdmjfaa", sum := "571a21ec3f5cc194cb6f9c1476d6f56c91d7adc95019620b0e6934fd74a754f8", func := "loop.example/g03414/laws.FnParts", spec := "fnParts", inPlace := ["internal/abi.NoEscape", "internal/bytealg.MakeNoZero"], apart := false }
def FnPartsSaid : Prop := fnPartsRow.holds Try.pinned (OpenSpec.ofChange fnPartsSpec)

/-- ITS FALSE NEIGHBOUR: 'it returns false'. Refute it at one input. -/
def fnPartsWrong : ChangeSpec := { name := "fnParts", fn := fun _ => fun
  | [d] => { results := [.lit (.bool false)], args := [d] }
  | _ => none }
def FnPartsWrongFalsely : Prop := fnPartsRow.holds Try.pinned (OpenSpec.ofChange fnPartsWrong)

/- THE SECOND FORM. 'bulk': how many values and letters a reading holds, each counted each time it is reached (what is shared counts as often as it is met; a slice's spare places count too). A statement '..UptoSaid' is the law's where the arguments, and the package variables that the reading takes, are together of bulk at most 1048576: NARROWER than '..Said'. Prove '..Said' where nothing that the law and all that it calls make is longer than what came in: it says more and counts as full. Else prove '..UptoSaid'. A law counts once. -/
mutual
def uptoBulk {H : Type} : DataW H → Nat
  | .lit (.string bytes) => bytes.length + 1
  | .lit _ => 1
  | .nil => 1
  | .ptr d => uptoBulk d + 1
  | .slice elems spare => uptoBulkAll elems + uptoBulkAll spare + 1
  | .agg parts => uptoBulkAll parts + 1
  | .iface _ d => uptoBulk d + 1
  | .map entries => uptoBulkEntries entries + 1
  | .held _ => 1
def uptoBulkAll {H : Type} : List (DataW H) → Nat
  | [] => 0
  | d :: r => uptoBulk d + uptoBulkAll r
def uptoBulkEntries {H : Type} : List (Lit × DataW H) → Nat
  | [] => 0
  | x :: r => uptoBulkEntry x + uptoBulkEntries r
def uptoBulkEntry {H : Type} : Lit × DataW H → Nat
  | (.string bytes, d) => bytes.length + uptoBulk d + 1
  | (_, d) => uptoBulk d + 1
 end
def uptoSmall : (H : Type) → List (DataW H) → Bool := fun _ ds => decide (uptoBulkAll ds ≤ 1048576)
def OpenSpec.upto (s : _root_.Go.ChangeSpec) : _root_.Go.OpenSpec := { _root_.Go.OpenSpec.ofChange s with cond := some uptoSmall }

/-- 'laws.FnExactFormatMods', WHERE WHAT IT READS IS OF BULK AT MOST 1048576: true; the input reads as it did. -/
def fnExactFormatModsUptoRow : OpenClaim := { program := "ytkfpnckhfdmjfaa", sum := "571a21ec3f5cc194cb6f9c1476d6f56c91d7adc95019620b0e6934fd74a754f8", func := "loop.example/g03414/laws.FnExactFormatMods", spec := "fnExactFormatMods", apart := false, narrowed := true }
def FnExactFormatModsUptoSaid : Prop := fnExactFormatModsUptoRow.holds Try.pinned (OpenSpec.upto fnExactFormatModsSpec)

/-- 'laws.FnExactFormatHex', WHERE WHAT IT READS IS OF BULK AT MOST 1048576: true; the input reads as it did. -/
def fnExactFormatHexUptoRow : OpenClaim := { program := "ytkfpnckhfdmjfaa", sum := "571a21ec3f5cc194cb6f9c1476d6f56c91d7adc95019620b0e6934fd74a754f8", func := "loop.example/g03414/laws.FnExactFormatHex", spec := "fnExactFormatHex", apart := false, narrowed := true }
def FnExactFormatHexUptoSaid : Prop := fnExactFormatHexUptoRow.holds Try.pinned (OpenSpec.upto fnExactFormatHexSpec)

/-- 'laws.FnExactParseMods', WHERE WHAT IT READS IS OF BULK AT MOST 1048576: true; the input reads as it did. -/
def fnExactParseModsUptoRow : OpenClaim := { program := "ytkfpnckhfdmjfaa", sum := "571a21ec3f5cc194cb6f9c1476d6f56c91d7adc95019620b0e6934fd74a754f8", func := "loop.example/g03414/laws.FnExactParseMods", spec := "fnExactParseMods", apart := false, narrowed := true }
def FnExactParseModsUptoSaid : Prop := fnExactParseModsUptoRow.holds Try.pinned (OpenSpec.upto fnExactParseModsSpec)

/-- 'laws.FnExactIsAction', WHERE WHAT IT READS IS OF BULK AT MOST 1048576: true; the input reads as it did. -/
def fnExactIsActionUptoRow : OpenClaim := { program := "ytkfpnckhfdmjfaa", sum := "571a21ec3f5cc194cb6f9c1476d6f56c91d7adc95019620b0e6934fd74a754f8", func := "loop.example/g03414/laws.FnExactIsAction", spec := "fnExactIsAction", apart := false, narrowed := true }
def FnExactIsActionUptoSaid : Prop := fnExactIsActionUptoRow.holds Try.pinned (OpenSpec.upto fnExactIsActionSpec)

/-- 'laws.FnExactSplitText', WHERE WHAT IT READS IS OF BULK AT MOST 1048576: true; the input reads as it did. -/
def fnExactSplitTextUptoRow : OpenClaim := { program := "ytkfpnckhfdmjfaa", sum := "571a21ec3f5cc194cb6f9c1476d6f56c91d7adc95019620b0e6934fd74a754f8", func := "loop.example/g03414/laws.FnExactSplitText", spec := "fnExactSplitText", apart := false, narrowed := true }
def FnExactSplitTextUptoSaid : Prop := fnExactSplitTextUptoRow.holds Try.pinned (OpenSpec.upto fnExactSplitTextSpec)

/-- 'laws.FnExactIsTapHold', WHERE WHAT IT READS IS OF BULK AT MOST 1048576: true; the input reads as it did. -/
def fnExactIsTapHoldUptoRow : OpenClaim := { program := "ytkfpnckhfdmjfaa", sum := "571a21ec3f5cc194cb6f9c1476d6f56c91d7adc95019620b0e6934fd74a754f8", func := "loop.example/g03414/laws.FnExactIsTapHold", spec := "fnExactIsTapHold", apart := false, narrowed := true }
def FnExactIsTapHoldUptoSaid : Prop := fnExactIsTapHoldUptoRow.holds Try.pinned (OpenSpec.upto fnExactIsTapHoldSpec)

/-- 'laws.FnExactParseHex', WHERE WHAT IT READS IS OF BULK AT MOST 1048576: true; the input reads as it did. -/
def fnExactParseHexUptoRow : OpenClaim := { program := "ytkfpnckhfdmjfaa", sum := "571a21ec3f5cc194cb6f9c1476d6f56c91d7adc95019620b0e6934fd74a754f8", func := "loop.example/g03414/laws.FnExactParseHex", spec := "fnExactParseHex", inPlace := ["internal/bytealg.IndexByteString"], apart := false, narrowed := true }
def FnExactParseHexUptoSaid : Prop := fnExactParseHexUptoRow.holds Try.pinned (OpenSpec.upto fnExactParseHexSpec)

/-- 'laws.FnExactTapOf', WHERE WHAT IT READS IS OF BULK AT MOST 1048576: true; the input reads as it did. -/
def fnExactTapOfUptoRow : OpenClaim := { program := "ytkfpnckhfdmjfaa", sum := "571a21ec3f5cc194cb6f9c1476d6f56c91d7adc95019620b0e6934fd74a754f8", func := "loop.example/g03414/laws.FnExactTapOf", spec := "fnExactTapOf", apart := false, narrowed := true }
def FnExactTapOfUptoSaid : Prop := fnExactTapOfUptoRow.holds Try.pinned (OpenSpec.upto fnExactTapOfSpec)

/-- 'laws.FnExactHoldOf', WHERE WHAT IT READS IS OF BULK AT MOST 1048576: true; the input reads as it did. -/
def fnExactHoldOfUptoRow : OpenClaim := { program := "ytkfpnckhfdmjfaa", sum := "571a21ec3f5cc194cb6f9c1476d6f56c91d7adc95019620b0e6934fd74a754f8", func := "loop.example/g03414/laws.FnExactHoldOf", spec := "fnExactHoldOf", apart := false, narrowed := true }
def FnExactHoldOfUptoSaid : Prop := fnExactHoldOfUptoRow.holds Try.pinned (OpenSpec.upto fnExactHoldOfSpec)

/-- 'laws.FnExactPackAction', WHERE WHAT IT READS IS OF BULK AT MOST 1048576: true; the input reads as it did. -/
def fnExactPackActionUptoRow : OpenClaim := { program := "ytkfpnckhfdmjfaa", sum := "571a21ec3f5cc194cb6f9c1476d6f56c91d7adc95019620b0e6934fd74a754f8", func := "loop.example/g03414/laws.FnExactPackAction", spec := "fnExactPackAction", apart := false, narrowed := true }
def FnExactPackActionUptoSaid : Prop := fnExactPackActionUptoRow.holds Try.pinned (OpenSpec.upto fnExactPackActionSpec)

/-- 'laws.FnExactJoinText', WHERE WHAT IT READS IS OF BULK AT MOST 1048576: true; the input reads as it did. -/
def fnExactJoinTextUptoRow : OpenClaim := { program := "ytkfpnckhfdmjfaa", sum := "571a21ec3f5cc194cb6f9c1476d6f56c91d7adc95019620b0e6934fd74a754f8", func := "loop.example/g03414/laws.FnExactJoinText", spec := "fnExactJoinText", inPlace := ["internal/abi.NoEscape", "internal/bytealg.MakeNoZero"], apart := false, narrowed := true }
def FnExactJoinTextUptoSaid : Prop := fnExactJoinTextUptoRow.holds Try.pinned (OpenSpec.upto fnExactJoinTextSpec)

/-- 'laws.FnParts', WHERE WHAT IT READS IS OF BULK AT MOST 1048576: true; the input reads as it did. -/
def fnPartsUptoRow : OpenClaim := { program := "ytkfpnckhfdmjfaa", sum := "571a21ec3f5cc194cb6f9c1476d6f56c91d7adc95019620b0e6934fd74a754f8", func := "loop.example/g03414/laws.FnParts", spec := "fnParts", inPlace := ["internal/abi.NoEscape", "internal/bytealg.MakeNoZero"], apart := false, narrowed := true }
def FnPartsUptoSaid : Prop := fnPartsUptoRow.holds Try.pinned (OpenSpec.upto fnPartsSpec)

end Rows
end Go.Proofs.Ytkfpnckhfdmjfaa
