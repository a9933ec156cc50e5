/- Slices of events that a call has made and hands back beside a bool. Conditions: none. -/
import Derived.Test.YtpfocjdhjkifmaaDoorEvE
namespace Go.Proofs.YtpfocjdhjkifmaaDoor
open Go.RowKit
set_option linter.unusedVariables false

def MadeE2 (w : World) (xs : List EV.Ev) (b : Bool) (e : Ending) (w' : World) : Prop :=
  ∃ (A : Option Addr) (cap : Nat), e = .returned (.tuple #[.slice A xs.length cap, .bool b]) ∧ OwnE w' w.heap.size A xs.length cap xs ∧ Below w.heap.size w w'
theorem OwnE.nil_ (w : World) (base : Nat) : OwnE w base none 0 0 [] := ⟨rfl, World.ownsRow_nil _ _ _ _⟩
theorem evCs_oneC (l : List EV.Ev) : ∀ u ∈ evCs l, u.oneCell' = true := by
  intro u hu
  unfold evCs at hu
  obtain ⟨e, _, he⟩ := List.mem_flatMap.1 hu
  simp [evC] at he
  rcases he with rfl | rfl | rfl <;> rfl
theorem OwnE.keptL {w w' : World} {base m cap' : Nat} {A B : Option Addr} {n cap : Nat} {xs : List EV.Ev} (h : OwnE w base A n cap xs) (hg : w.grownBy w' (Value.slice B m cap').ownBlock)
    (hne : (Value.slice A n cap).ownBlock = none ∨ (Value.slice A n cap).ownBlock ≠ (Value.slice B m cap').ownBlock) : OwnE w' base A n cap xs := ⟨h.1, h.2.kept hg hne⟩
theorem apart_symm {u v : Value} (h : u.ownBlock = none ∨ u.ownBlock ≠ v.ownBlock) : v.ownBlock = none ∨ v.ownBlock ≠ u.ownBlock := by
  rcases h with h | h
  · cases hv : v.ownBlock with
    | none => exact .inl rfl
    | some g => right; rw [h]; simp
  · exact .inr (fun e => h e.symm)
end Go.Proofs.YtpfocjdhjkifmaaDoor
