/-
  No cell of these rows narrows 'for every input' (looked for: loops, veiled, ifaces, maps, wideKeys, modest, calm, conditions, laid).
  DERIVED. THE GIVEN ROWS OF THIS SEAT. 8 by the template 'for every input the law returns true; each argument reads behind the call as it read before'; 0 by the template 'total and deterministic' (their statements: YthjgapjagfjamaaTotals.lean).
  GIVEN WITH THE SEED: the statements are not yours to turn. If you find one false, say at which input.
  Laid BY PROGRAM, IN A SANDBOX (cutbox-rows.mjs): the forced cells as the released guide's own fill.sh prints them over the translation 9ac01f438a11ee88… (all of the seat's roots in one cut). By AI agents, Wed Nov 11 2026. No macro, syntax, notation, axiom, sorry.
-/
import Derived.Test.YthjgapjagfjamaaChecked
import GoSem.Claim
import GoSem.ClaimJoined
import GoSem.ClaimMapViews
import Derived.JoinedTies
import Derived.KernelRfl
namespace Go.Proofs.Ythjgapjagfjamaa
/- THE CELL 'sum', in the pinned program and in every row, IS THE sha256 OF THE DUMP (.gsa) THAT YthjgapjagfjamaaProg.lean LOADS. Nothing in Lean hashes anything: it is a label: what it is worth is what the hold of that sum in a sandbox is worth. -/
noncomputable def Try.pinned : Pinned := { name := "ythjgapjagfjamaa", sum := "9ac01f438a11ee888f464745a9c030ada05222440a16f0f26e473abe4f1ee941", checked := Try.checked }
namespace Rows
def none {H : Type} : Left H := { results := [], args := [] }

/-- 'laws.FnExactConstants': WHATEVER THE INPUT: true; the input reads as it did. -/
def fnExactConstantsSpec : ChangeSpec := { name := "fnExactConstants", fn := fun _ => fun
  | [] => { results := [.lit (.bool true)], args := [] }
  | _ => none }
def fnExactConstantsRow : OpenClaim := { program := "ythjgapjagfjamaa", sum := "9ac01f438a11ee888f464745a9c030ada05222440a16f0f26e473abe4f1ee941", func := "loop.example/g03414/laws.FnExactConstants", spec := "fnExactConstants", apart := false }
def FnExactConstantsSaid : Prop := fnExactConstantsRow.holds Try.pinned (OpenSpec.ofChange fnExactConstantsSpec)

/-- ITS FALSE NEIGHBOUR: 'it returns false'. Refute it at one input. -/
def fnExactConstantsWrong : ChangeSpec := { name := "fnExactConstants", fn := fun _ => fun
  | [] => { results := [.lit (.bool false)], args := [] }
  | _ => none }
def FnExactConstantsWrongFalsely : Prop := fnExactConstantsRow.holds Try.pinned (OpenSpec.ofChange fnExactConstantsWrong)

/-- 'laws.FnExactIsEvent': WHATEVER THE INPUT: true; the input reads as it did. -/
def fnExactIsEventSpec : ChangeSpec := { name := "fnExactIsEvent", fn := fun _ => fun
  | [d] => { results := [.lit (.bool true)], args := [d] }
  | _ => none }
def fnExactIsEventRow : OpenClaim := { program := "ythjgapjagfjamaa", sum := "9ac01f438a11ee888f464745a9c030ada05222440a16f0f26e473abe4f1ee941", func := "loop.example/g03414/laws.FnExactIsEvent", spec := "fnExactIsEvent", apart := false }
def FnExactIsEventSaid : Prop := fnExactIsEventRow.holds Try.pinned (OpenSpec.ofChange fnExactIsEventSpec)

/-- ITS FALSE NEIGHBOUR: 'it returns false'. Refute it at one input. -/
def fnExactIsEventWrong : ChangeSpec := { name := "fnExactIsEvent", fn := fun _ => fun
  | [d] => { results := [.lit (.bool false)], args := [d] }
  | _ => none }
def FnExactIsEventWrongFalsely : Prop := fnExactIsEventRow.holds Try.pinned (OpenSpec.ofChange fnExactIsEventWrong)

/-- 'laws.FnExactIsEvents': WHATEVER THE INPUT: true; the input reads as it did. -/
def fnExactIsEventsSpec : ChangeSpec := { name := "fnExactIsEvents", fn := fun _ => fun
  | [d] => { results := [.lit (.bool true)], args := [d] }
  | _ => none }
def fnExactIsEventsRow : OpenClaim := { program := "ythjgapjagfjamaa", sum := "9ac01f438a11ee888f464745a9c030ada05222440a16f0f26e473abe4f1ee941", func := "loop.example/g03414/laws.FnExactIsEvents", spec := "fnExactIsEvents", apart := false }
def FnExactIsEventsSaid : Prop := fnExactIsEventsRow.holds Try.pinned (OpenSpec.ofChange fnExactIsEventsSpec)

/-- ITS FALSE NEIGHBOUR: 'it returns false'. Refute it at one input. -/
def fnExactIsEventsWrong : ChangeSpec := { name := "fnExactIsEvents", fn := fun _ => fun
  | [d] => { results := [.lit (.bool false)], args := [d] }
  | _ => none }
def FnExactIsEventsWrongFalsely : Prop := fnExactIsEventsRow.holds Try.pinned (OpenSpec.ofChange fnExactIsEventsWrong)

/-- 'laws.FnExactHeldAfter': WHATEVER THE INPUT: true; the input reads as it did. -/
def fnExactHeldAfterSpec : ChangeSpec := { name := "fnExactHeldAfter", fn := fun _ => fun
  | [d] => { results := [.lit (.bool true)], args := [d] }
  | _ => none }
def fnExactHeldAfterRow : OpenClaim := { program := "ythjgapjagfjamaa", sum := "9ac01f438a11ee888f464745a9c030ada05222440a16f0f26e473abe4f1ee941", func := "loop.example/g03414/laws.FnExactHeldAfter", spec := "fnExactHeldAfter", apart := false }
def FnExactHeldAfterSaid : Prop := fnExactHeldAfterRow.holds Try.pinned (OpenSpec.ofChange fnExactHeldAfterSpec)

/-- ITS FALSE NEIGHBOUR: 'it returns false'. Refute it at one input. -/
def fnExactHeldAfterWrong : ChangeSpec := { name := "fnExactHeldAfter", fn := fun _ => fun
  | [d] => { results := [.lit (.bool false)], args := [d] }
  | _ => none }
def FnExactHeldAfterWrongFalsely : Prop := fnExactHeldAfterRow.holds Try.pinned (OpenSpec.ofChange fnExactHeldAfterWrong)

/-- 'laws.FnExactEventsOf': WHATEVER THE INPUT: true; the input reads as it did. -/
def fnExactEventsOfSpec : ChangeSpec := { name := "fnExactEventsOf", fn := fun _ => fun
  | [d] => { results := [.lit (.bool true)], args := [d] }
  | _ => none }
def fnExactEventsOfRow : OpenClaim := { program := "ythjgapjagfjamaa", sum := "9ac01f438a11ee888f464745a9c030ada05222440a16f0f26e473abe4f1ee941", func := "loop.example/g03414/laws.FnExactEventsOf", spec := "fnExactEventsOf", apart := false }
def FnExactEventsOfSaid : Prop := fnExactEventsOfRow.holds Try.pinned (OpenSpec.ofChange fnExactEventsOfSpec)

/-- ITS FALSE NEIGHBOUR: 'it returns false'. Refute it at one input. -/
def fnExactEventsOfWrong : ChangeSpec := { name := "fnExactEventsOf", fn := fun _ => fun
  | [d] => { results := [.lit (.bool false)], args := [d] }
  | _ => none }
def FnExactEventsOfWrongFalsely : Prop := fnExactEventsOfRow.holds Try.pinned (OpenSpec.ofChange fnExactEventsOfWrong)

/-- 'laws.FnExactMasksOf': WHATEVER THE INPUT: true; the input reads as it did. -/
def fnExactMasksOfSpec : ChangeSpec := { name := "fnExactMasksOf", fn := fun _ => fun
  | [d1, d2] => { results := [.lit (.bool true)], args := [d1, d2] }
  | _ => none }
def fnExactMasksOfRow : OpenClaim := { program := "ythjgapjagfjamaa", sum := "9ac01f438a11ee888f464745a9c030ada05222440a16f0f26e473abe4f1ee941", func := "loop.example/g03414/laws.FnExactMasksOf", spec := "fnExactMasksOf", apart := false }
def FnExactMasksOfSaid : Prop := fnExactMasksOfRow.holds Try.pinned (OpenSpec.ofChange fnExactMasksOfSpec)

/-- ITS FALSE NEIGHBOUR: 'it returns false'. Refute it at one input. -/
def fnExactMasksOfWrong : ChangeSpec := { name := "fnExactMasksOf", fn := fun _ => fun
  | [d1, d2] => { results := [.lit (.bool false)], args := [d1, d2] }
  | _ => none }
def FnExactMasksOfWrongFalsely : Prop := fnExactMasksOfRow.holds Try.pinned (OpenSpec.ofChange fnExactMasksOfWrong)

/-- 'laws.FnExactReleaseAll': WHATEVER THE INPUT: true; the input reads as it did. -/
def fnExactReleaseAllSpec : ChangeSpec := { name := "fnExactReleaseAll", fn := fun _ => fun
  | [d1, d2] => { results := [.lit (.bool true)], args := [d1, d2] }
  | _ => none }
def fnExactReleaseAllRow : OpenClaim := { program := "ythjgapjagfjamaa", sum := "9ac01f438a11ee888f464745a9c030ada05222440a16f0f26e473abe4f1ee941", func := "loop.example/g03414/laws.FnExactReleaseAll", spec := "fnExactReleaseAll", apart := false }
def FnExactReleaseAllSaid : Prop := fnExactReleaseAllRow.holds Try.pinned (OpenSpec.ofChange fnExactReleaseAllSpec)

/-- ITS FALSE NEIGHBOUR: 'it returns false'. Refute it at one input. -/
def fnExactReleaseAllWrong : ChangeSpec := { name := "fnExactReleaseAll", fn := fun _ => fun
  | [d1, d2] => { results := [.lit (.bool false)], args := [d1, d2] }
  | _ => none }
def FnExactReleaseAllWrongFalsely : Prop := fnExactReleaseAllRow.holds Try.pinned (OpenSpec.ofChange fnExactReleaseAllWrong)

/-- 'laws.FnEvents': WHATEVER THE INPUT: true; the input reads as it did. -/
def fnEventsSpec : ChangeSpec := { name := "fnEvents", fn := fun _ => fun
  | [d] => { results := [.lit (.bool true)], args := [d] }
  | _ => none }
def fnEventsRow : OpenClaim := { program := "ythjgapjagfjamaa", sum := "9ac01f438a11ee888f464745a9c030ada05222440a16f0f26e473abe4f1ee941", func := "loop.example/g03414/laws.FnEvents", spec := "fnEvents", apart := false }
def FnEventsSaid : Prop := fnEventsRow.holds Try.pinned (OpenSpec.ofChange fnEventsSpec)

/-- ITS FALSE NEIGHBOUR: 'it returns false'. Refute it at one input. -/
def fnEventsWrong : ChangeSpec := { name := "fnEvents", fn := fun _ => fun
  | [d] => { results := [.lit (.bool false)], args := [d] }
  | _ => none }
def FnEventsWrongFalsely : Prop := fnEventsRow.holds Try.pinned (OpenSpec.ofChange fnEventsWrong)

/- THE SECOND FORM. 'bulk': how many values and letters a reading holds, each counted each time it is reached (what is shared counts as often as it is met; a slice's spare places count too). A statement '..UptoSaid' is the law's where the arguments, and the package variables that the reading takes, are together of bulk at most 1048576: NARROWER than '..Said'. Prove '..Said' where nothing that the law and all that it calls make is longer than what came in: it says more and counts as full. Else prove '..UptoSaid'. A law counts once. -/
mutual
def uptoBulk {H : Type} : DataW H → Nat
  | .lit (.string bytes) => bytes.length + 1
  | .lit _ => 1
  | .nil => 1
  | .ptr d => uptoBulk d + 1
  | .slice elems spare => uptoBulkAll elems + uptoBulkAll spare + 1
  | .agg parts => uptoBulkAll parts + 1
  | .iface _ d => uptoBulk d + 1
  | .map entries => uptoBulkEntries entries + 1
  | .held _ => 1
def uptoBulkAll {H : Type} : List (DataW H) → Nat
  | [] => 0
  | d :: r => uptoBulk d + uptoBulkAll r
def uptoBulkEntries {H : Type} : List (Lit × DataW H) → Nat
  | [] => 0
  | x :: r => uptoBulkEntry x + uptoBulkEntries r
def uptoBulkEntry {H : Type} : Lit × DataW H → Nat
  | (.string bytes, d) => bytes.length + uptoBulk d + 1
  | (_, d) => uptoBulk d + 1
 end
def uptoSmall : (H : Type) → List (DataW H) → Bool := fun _ ds => decide (uptoBulkAll ds ≤ 1048576)
def OpenSpec.upto (s : _root_.Go.ChangeSpec) : _root_.Go.OpenSpec := { _root_.Go.OpenSpec.ofChange s with cond := some uptoSmall }

/-- 'laws.FnExactConstants', WHERE WHAT IT READS IS OF BULK AT MOST 1048576: true; the input reads as it did. -/
def fnExactConstantsUptoRow : OpenClaim := { program := "ythjgapjagfjamaa", sum := "9ac01f438a11ee888f464745a9c030ada05222440a16f0f26e473abe4f1ee941", func := "loop.example/g03414/laws.FnExactConstants", spec := "fnExactConstants", apart := false, narrowed := true }
def FnExactConstantsUptoSaid : Prop := fnExactConstantsUptoRow.holds Try.pinned (OpenSpec.upto fnExactConstantsSpec)

/-- 'laws.FnExactIsEvent', WHERE WHAT IT READS IS OF BULK AT MOST 1048576: true; the input reads as it did. -/
def fnExactIsEventUptoRow : OpenClaim := { program := "ythjgapjagfjamaa", sum := "9ac01f438a11ee888f464745a9c030ada05222440a16f0f26e473abe4f1ee941", func := "loop.example/g03414/laws.FnExactIsEvent", spec := "fnExactIsEvent", apart := false, narrowed := true }
def FnExactIsEventUptoSaid : Prop := fnExactIsEventUptoRow.holds Try.pinned (OpenSpec.upto fnExactIsEventSpec)

/-- 'laws.FnExactIsEvents', WHERE WHAT IT READS IS OF BULK AT MOST 1048576: true; the input reads as it did. -/
def fnExactIsEventsUptoRow : OpenClaim := { program := "ythjgapjagfjamaa", sum := "9ac01f438a11ee888f464745a9c030ada05222440a16f0f26e473abe4f1ee941", func := "loop.example/g03414/laws.FnExactIsEvents", spec := "fnExactIsEvents", apart := false, narrowed := true }
def FnExactIsEventsUptoSaid : Prop := fnExactIsEventsUptoRow.holds Try.pinned (OpenSpec.upto fnExactIsEventsSpec)

/-- 'laws.FnExactHeldAfter', WHERE WHAT IT READS IS OF BULK AT MOST 1048576: true; the input reads as it did. -/
def fnExactHeldAfterUptoRow : OpenClaim := { program := "ythjgapjagfjamaa", sum := "9ac01f438a11ee888f464745a9c030ada05222440a16f0f26e473abe4f1ee941", func := "loop.example/g03414/laws.FnExactHeldAfter", spec := "fnExactHeldAfter", apart := false, narrowed := true }
def FnExactHeldAfterUptoSaid : Prop := fnExactHeldAfterUptoRow.holds Try.pinned (OpenSpec.upto fnExactHeldAfterSpec)

/-- 'laws.FnExactEventsOf', WHERE WHAT IT READS IS OF BULK AT MOST 1048576: true; the input reads as it did. -/
def fnExactEventsOfUptoRow : OpenClaim := { program := "ythjgapjagfjamaa", sum := "9ac01f438a11ee888f464745a9c030ada05222440a16f0f26e473abe4f1ee941", func := "loop.example/g03414/laws.FnExactEventsOf", spec := "fnExactEventsOf", apart := false, narrowed := true }
def FnExactEventsOfUptoSaid : Prop := fnExactEventsOfUptoRow.holds Try.pinned (OpenSpec.upto fnExactEventsOfSpec)

/-- 'laws.FnExactMasksOf', WHERE WHAT IT READS IS OF BULK AT MOST 1048576: true; the input reads as it did. -/
def fnExactMasksOfUptoRow : OpenClaim := { program := "ythjgapjagfjamaa", sum := "9ac01f438a11ee888f464745a9c030ada05222440a16f0f26e473abe4f1ee941", func := "loop.example/g03414/laws.FnExactMasksOf", spec := "fnExactMasksOf", apart := false, narrowed := true }
def FnExactMasksOfUptoSaid : Prop := fnExactMasksOfUptoRow.holds Try.pinned (OpenSpec.upto fnExactMasksOfSpec)

/-- 'laws.FnExactReleaseAll', WHERE WHAT IT READS IS OF BULK AT MOST 1048576: true; the input reads as it did. -/
def fnExactReleaseAllUptoRow : OpenClaim := { program := "ythjgapjagfjamaa", sum := "9ac01f438a11ee888f464745a9c030ada05222440a16f0f26e473abe4f1ee941", func := "loop.example/g03414/laws.FnExactReleaseAll", spec := "fnExactReleaseAll", apart := false, narrowed := true }
def FnExactReleaseAllUptoSaid : Prop := fnExactReleaseAllUptoRow.holds Try.pinned (OpenSpec.upto fnExactReleaseAllSpec)

/-- 'laws.FnEvents', WHERE WHAT IT READS IS OF BULK AT MOST 1048576: true; the input reads as it did. -/
def fnEventsUptoRow : OpenClaim := { program := "ythjgapjagfjamaa", sum := "9ac01f438a11ee888f464745a9c030ada05222440a16f0f26e473abe4f1ee941", func := "loop.example/g03414/laws.FnEvents", spec := "fnEvents", apart := false, narrowed := true }
def FnEventsUptoSaid : Prop := fnEventsUptoRow.holds Try.pinned (OpenSpec.upto fnEventsSpec)

end Rows
end Go.Proofs.Ythjgapjagfjamaa
