/- A slice of events that came in, opened as one list. Conditions: none of its own. -/
import Derived.Test.YtpfocjdhjkifmaaDoorFrame
import Derived.Test.YtpfocjdhjkifmaaDoorEvRd
import Derived.Deep.Slices
import Derived.Deep.Strs
namespace Go.Proofs.YtpfocjdhjkifmaaDoor
open Go.ChangeShapes Go.WideShapes Go.ChangeAt Go.RowKit Go.Joins Go.Deep
set_option linter.unusedVariables false
section
variable {H : Type} {enc : TypeId × Value → H}
set_option maxRecDepth 100000 in
theorem open_reads_events {W : World} {A : Option Addr} {n c : Nat} {d : DataW H} {p : List MemPlace}
    (h : DataW.Trod enc Tryd.prog W 0 (fun _ => true) true 26 (.slice A n c) d p) (hlt : ∀ x ∈ p, x.block < W.heap.size) :
    ∃ zs : List EV.Ev, zs.length = n ∧ n ≤ maxLen ∧ Reads W W.heap.size 3 A n (evCs zs) ∧ ∀ z ∈ zs, (Lit.int .i64 z.time).wf = true ∧ (Lit.int .i64 z.key).wf = true := by
  obtain ⟨fuel, hf⟩ := h
  rcases open_slice Tryd.underlying26 hf with ⟨hcs, _⟩ | ⟨a, len, cap, m, k, D, Pl, hcs, hb, hl, hm, hmm, hxx, hx⟩
  · simp [Value.cells] at hcs
    obtain ⟨rfl, rfl, rfl⟩ := hcs
    exact ⟨[], rfl, Nat.zero_le _, Reads.none_, fun z hz => by cases hz⟩
  · simp [Value.cells] at hcs
    obtain ⟨rfl, rfl, rfl⟩ := hcs
    have hC : Tryd.prog.cellsOf 63 = 3 := by kernel_rfl
    have hI : Tryd.prog.cellsOf 3 = 1 := by kernel_rfl
    have hB : Tryd.prog.cellsOf 4 = 1 := by kernel_rfl
    have each : ∀ i, i < n → ∃ z : EV.Ev, W.cell? (a.add (i * 3)) = some (.int .i64 z.time) ∧ W.cell? (a.add (i * 3 + 1)) = some (.int .i64 z.key) ∧ W.cell? (a.add (i * 3 + 2)) = some (.bool z.down) ∧ (Lit.int .i64 z.time).wf = true ∧ (Lit.int .i64 z.key).wf = true := by
      intro i hi
      obtain ⟨cs', h1, h2⟩ := hx i (by rw [hmm]; simp; omega)
      rw [hC] at h1
      obtain ⟨_, hlen, hcell⟩ := World.cells?_some h1
      obtain ⟨y0, y1, y2, m', _, _, g0, g1, g2⟩ := trod_struct3 Tryd.underlying63 h2
      match cs', hlen with
      | [v0, v1, v2], _ =>
        simp [hI, hB] at g0 g1 g2
        obtain ⟨a0, e0, _, w0⟩ := DataW.trod_int Tryd.underlying3 g0
        obtain ⟨a1, e1, _, w1⟩ := DataW.trod_int Tryd.underlying3 g1
        obtain ⟨a2, e2, _⟩ := DataW.trod_bool Tryd.underlying4 g2
        simp only [List.cons.injEq, and_true] at e0 e1 e2
        subst e0 e1 e2
        have c0 := hcell 0 (by omega)
        have c1 := hcell 1 (by omega)
        have c2 := hcell 2 (by omega)
        rw [add_add] at c0 c1 c2
        exact ⟨⟨a0, a1, a2⟩, by simpa using c0, by simpa using c1, by simpa using c2, w0, w1⟩
    have hinh : Inhabited EV.Ev := ⟨⟨0, 0, false⟩⟩
    obtain ⟨q, hq⟩ := choose_lt each
    refine ⟨(List.range n).map q, by simp, Nat.le_trans hl hm, ⟨by rw [evCs_length]; simp, fun hn => ⟨a, rfl, ?_, ?_⟩⟩, ?_⟩
    · have h0 := (hq 0 hn).1
      exact (by have := World.block_lt_of_cell? _ _ h0; rwa [block_of_add] at this)
    · intro j u hu
      have hj : j < n * 3 := by
        have := (List.getElem?_eq_some_iff.1 hu).1
        rw [evCs_length] at this; simpa using this
      obtain ⟨g0, g1, g2⟩ := evCs_get ((List.range n).map q) (j / 3) (by simp; omega)
      have hgd : ((List.range n).map q).getD (j / 3) evD = q (j / 3) := by
        rw [List.getD_eq_getElem?_getD, List.getElem?_map, List.getElem?_range (by omega)]; rfl
      rw [hgd] at g0 g1 g2
      obtain ⟨c0, c1, c2, _⟩ := hq (j / 3) (by omega)
      have h3 : j = j / 3 * 3 ∨ j = j / 3 * 3 + 1 ∨ j = j / 3 * 3 + 2 := by omega
      rcases h3 with h3 | h3 | h3
      · rw [h3, g0] at hu; injection hu with hu; rw [h3, c0, hu]
      · rw [h3, g1] at hu; injection hu with hu; rw [h3, c1, hu]
      · rw [h3, g2] at hu; injection hu with hu; rw [h3, c2, hu]
    · intro z hz
      obtain ⟨i, hi, rfl⟩ := List.mem_map.1 hz
      have := hq i (List.mem_range.1 hi)
      exact ⟨this.2.2.2.1, this.2.2.2.2⟩
end
end Go.Proofs.YtpfocjdhjkifmaaDoor
