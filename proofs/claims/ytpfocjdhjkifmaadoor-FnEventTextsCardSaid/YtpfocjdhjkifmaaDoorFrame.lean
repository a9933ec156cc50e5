/- What every row's proof of this seat uses to open its arguments. Conditions: none of its own. -/
import Derived.Test.YtpfocjdhjkifmaaDoorRows
import Derived.Test.YtpfocjdhjkifmaaDoorLib
import Derived.WalkKit
import Derived.ProofKit
import Derived.OpenShut
import Derived.ShutString
import Derived.ChangeOld
import Derived.SizedLaws
import Derived.Lib.SmallJoins
namespace Go.Proofs.YtpfocjdhjkifmaaDoor
open Go.ChangeShapes Go.WideShapes Go.ChangeAt Go.RowKit Go.Joins
open Go.ChangeMaps (open_string shut_string)
set_option linter.unusedVariables false

theorem own : ownKnob Tryd.prog.godebug = none := by kernel_rfl
theorem laidOut : laidOutB Tryd.prog = true := by kernel_rfl

section
variable {H : Type} {enc : TypeId × Value → H}
/-- A slice of integers that came in, as a list. -/
theorem open_reads_int {W : World} {k : IntKind} {t e : TypeId} {A : Option Addr} {n c : Nat} {d : DataW H} {p : List MemPlace} (ht : Tryd.prog.underlying t = some (.slice e)) (he : Tryd.prog.underlying e = some (.int k)) (hC : Tryd.prog.cellsOf e = 1)
    (h : DataW.Trod enc Tryd.prog W 0 (fun _ => true) true t (.slice A n c) d p) (hlt : ∀ x ∈ p, x.block < W.heap.size) :
    ∃ zs : List Int, zs.length = n ∧ n ≤ maxLen ∧ Reads W W.heap.size 1 A n (zs.map (.int k)) ∧ ∀ z ∈ zs, (Lit.int k z).wf = true := by
  obtain ⟨fuel, hf⟩ := h
  rcases open_ints ht he hC hf with ⟨hcs, _⟩ | ⟨x, l, c', zs, hcs, _, hl, hm, hz, hx, hcell, hwz⟩
  · simp [Value.cells] at hcs
    obtain ⟨rfl, rfl, rfl⟩ := hcs
    exact ⟨[], rfl, Nat.zero_le _, Reads.none_, fun z hz => by cases hz⟩
  · simp [Value.cells] at hcs
    obtain ⟨rfl, rfl, rfl⟩ := hcs
    have hz' : zs.length = c := by simpa using hz
    refine ⟨zs.take n, by rw [List.length_take]; omega, Nat.le_trans hl hm, ⟨by rw [List.length_map, List.length_take]; omega, fun hn => ⟨x, rfl, ?_, ?_⟩⟩, fun z hz => hwz z (List.mem_of_mem_take hz)⟩
    · have h0 := hcell 0 (by omega)
      exact (by have := World.block_lt_of_cell? _ _ h0; rwa [block_of_add] at this)
    · intro j u hu
      rw [List.getElem?_map, List.getElem?_take] at hu
      by_cases hj : j < n
      · rw [if_pos hj, List.getElem?_eq_getElem (by omega)] at hu
        simp at hu
        subst hu
        have := hcell j (by omega)
        rwa [List.getD_eq_getElem?_getD, List.getElem?_eq_getElem (by omega)] at this
      · rw [if_neg hj] at hu; cases hu
end
end Go.Proofs.YtpfocjdhjkifmaaDoor
