/- Actions read from texts: by contract in the reference. Conditions: the library's table and MaxLen as the cards give them. -/
import Derived.Test.YtpfocjdhjkifmaaDoorPacL
import Derived.Deep.RegionHeld3
namespace Go.Proofs.YtpfocjdhjkifmaaDoor
open Go.RowKit
set_option linter.unusedVariables false

def psV (l : List UInt8) : Int × Int × Int × Int := (paS l).getD (0, 0, 0, 0)
def psB (l : List UInt8) : Bool := (paS l).isSome
theorem ps_yes {l : List UInt8} {k c m n : Int} (hg : gS l = (k, c, m, n)) (h1 : l ≠ []) (h2 : faL k c m n = l) : psV l = (k, c, m, n) ∧ psB l = true := by
  have : paS l = some (k, c, m, n) := by unfold paS fa4; rw [hg]; exact if_pos ⟨h1, h2⟩
  unfold psV psB; rw [this]; exact ⟨rfl, rfl⟩
theorem ps_no {l : List UInt8} {k c m n : Int} (hg : gS l = (k, c, m, n)) (h : l = [] ∨ faL k c m n ≠ l) : psV l = (0, 0, 0, 0) ∧ psB l = false := by
  have : paS l = none := by
    unfold paS fa4; rw [hg]
    refine if_neg ?_
    rintro ⟨h1, h2⟩
    rcases h with h | h
    · exact h1 h
    · exact h h2
  unfold psV psB; rw [this]; exact ⟨rfl, rfl⟩
theorem ps_same (l : List UInt8) : psV l = paV l ∧ psB l = paB l := by unfold psV psB paV paB; rw [pa_same]; exact ⟨rfl, rfl⟩
theorem undrewB {w w' : World} (h : Below w.drew.heap.size w.drew w') : Below w.heap.size w w' := ⟨h.os, h.tape, h.output, h.size, h.block⟩
theorem cell_fill4 {w : World} {g b o : Nat} {v : Value} (h : w.cell? ⟨g, o, none⟩ = some v) (hne : g ≠ b) (u0 u1 u2 u3 : Value) : (fill4 w b u0 u1 u2 u3).cell? ⟨g, o, none⟩ = some v := by
  have k : ∀ (w : World) (o' : Nat) (u : Value), w.cell? ⟨g, o, none⟩ = some v → (w.setCell ⟨b, o', none⟩ u).cell? ⟨g, o, none⟩ = some v := fun w o' u h => (World.cell?_of_block (a := ⟨g, o, none⟩) (Below.heap_setCell w ⟨b, o', none⟩ u g hne)).trans h
  exact k _ _ _ (k _ _ _ (k _ _ _ (k _ _ _ h)))
end Go.Proofs.YtpfocjdhjkifmaaDoor
