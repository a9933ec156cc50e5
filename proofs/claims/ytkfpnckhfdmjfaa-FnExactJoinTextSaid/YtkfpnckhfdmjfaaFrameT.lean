/- A slice of strings that came in, opened as one list. Conditions: none of its own. -/
import Derived.Test.YtkfpnckhfdmjfaaFrame
import Derived.SliceStrings
namespace Go.Proofs.Ytkfpnckhfdmjfaa
open Go.ChangeShapes Go.WideShapes Go.ChangeAt Go.RowKit Go.Joins
set_option linter.unusedVariables false
section
variable {H : Type} {enc : TypeId × Value → H}
theorem open_reads_strings {W : World} {A : Option Addr} {n c : Nat} {d : DataW H} {p : List MemPlace}
    (h : DataW.Trod enc Try.prog W 0 (fun _ => true) true 37 (.slice A n c) d p) (hlt : ∀ x ∈ p, x.block < W.heap.size) :
    ∃ zs : List ByteArray, zs.length = n ∧ n ≤ maxLen ∧ Reads W W.heap.size 1 A n (zs.map Value.string) ∧ ∀ z ∈ zs, z.size ≤ maxLen := by
  obtain ⟨fuel, hf⟩ := h
  rcases open_strings Try.underlying37 Try.underlying9 (by kernel_rfl) hf with ⟨hcs, _⟩ | ⟨x, l, c', zs, hcs, _, hl, hm, hz, hx, hcell, hwz⟩
  · simp [Value.cells] at hcs
    obtain ⟨rfl, rfl, rfl⟩ := hcs
    exact ⟨[], rfl, Nat.zero_le _, Reads.none_, fun z hz => by cases hz⟩
  · simp [Value.cells] at hcs
    obtain ⟨rfl, rfl, rfl⟩ := hcs
    have hz' : zs.length = c := by simpa using hz
    refine ⟨zs.take n, by rw [List.length_take]; omega, Nat.le_trans hl hm, ⟨by rw [List.length_map, List.length_take]; omega, fun hn => ⟨x, rfl, ?_, ?_⟩⟩, fun z hz => hwz z (List.mem_of_mem_take hz)⟩
    · have h0 := hcell 0 (by omega)
      exact (by have := World.block_lt_of_cell? _ _ h0; rwa [block_of_add] at this)
    · intro j u hu
      rw [List.getElem?_map, List.getElem?_take] at hu
      by_cases hj : j < n
      · rw [if_pos hj, List.getElem?_eq_getElem (by omega)] at hu
        simp at hu
        subst hu
        have := hcell j (by omega)
        rwa [List.getD_eq_getElem?_getD, List.getElem?_eq_getElem (by omega)] at this
      · rw [if_neg hj] at hu; cases hu
end
end Go.Proofs.Ytkfpnckhfdmjfaa
