/- The walks of the laws on single small functions of the matrix. Conditions: none. -/
import Derived.Test.YtmhpepicmnjmgaaMatA
namespace Go.Proofs.Ytmhpepicmnjmgaa
open Go.RowKit
set_option linter.unusedVariables false

theorem walk_FnExactIsMatrix (r c : Int) (d : Bool) (_ : (Lit.int .i64 r).wf = true) (_ : (Lit.int .i64 c).wf = true) (w : World) : Calls Try.prog 3 #[.agg #[.int .i64 r, .int .i64 c, .bool d]] w fun e w' => e = .returned (.bool true) ∧ Below w.heap.size w w' := by
  have H0 := hid (toMatrix_any r c d)
  have H1 := hid (sIsMatrix_any r c d)
  have H2 := hid (iIsMatrix_any r c d)
  go_enter Try.func3, Try.ntmps3
  go_wp2_with (first | (go_at_call 16; refine (H0.out _).mono ?_; rintro e w1 ⟨rfl, hb1⟩; obtain ⟨hc1, hf1, hz1⟩ := bcell hb1; (try simp at hz1); replace hb1 := Below.via (B := w.heap.size) (a := w) (by go_grown) hb1 (by go_size); (try have hy1 : w.heap.size < w1.heap.size := by omega)) | (go_at_call 15; refine (H1.out _).mono ?_; rintro e w2 ⟨rfl, hb2⟩; obtain ⟨hc2, hf2, hz2⟩ := bcell hb2; (try simp at hz2); replace hb2 := Below.via (B := w.heap.size) (a := w) (by go_grown) hb2 (by go_size); (try have hy2 : w.heap.size < w2.heap.size := by omega)) | (go_at_call 17; refine (H2.out _).mono ?_; rintro e w2 ⟨rfl, hb2⟩; obtain ⟨hc2, hf2, hz2⟩ := bcell hb2; (try simp at hz2); replace hb2 := Below.via (B := w.heap.size) (a := w) (by go_grown) hb2 (by go_size); (try have hy2 : w.heap.size < w2.heap.size := by omega)))
  go_ret
  exact ⟨rfl, by go_grown⟩
theorem walk_FnExactKeyCount (r c : Int) (d : Bool) (_ : (Lit.int .i64 r).wf = true) (_ : (Lit.int .i64 c).wf = true) (w : World) : Calls Try.prog 4 #[.agg #[.int .i64 r, .int .i64 c, .bool d]] w fun e w' => e = .returned (.bool true) ∧ Below w.heap.size w w' := by
  have H0 := hid (toMatrix_any r c d)
  have H1 := hid (sKeyCount_any r c d)
  have H2 := hid (iKeyCount_any r c d)
  go_enter Try.func4, Try.ntmps4
  go_wp2_with (first | (go_at_call 16; refine (H0.out _).mono ?_; rintro e w1 ⟨rfl, hb1⟩; obtain ⟨hc1, hf1, hz1⟩ := bcell hb1; (try simp at hz1); replace hb1 := Below.via (B := w.heap.size) (a := w) (by go_grown) hb1 (by go_size); (try have hy1 : w.heap.size < w1.heap.size := by omega)) | (go_at_call 18; refine (H1.out _).mono ?_; rintro e w2 ⟨rfl, hb2⟩; obtain ⟨hc2, hf2, hz2⟩ := bcell hb2; (try simp at hz2); replace hb2 := Below.via (B := w.heap.size) (a := w) (by go_grown) hb2 (by go_size); (try have hy2 : w.heap.size < w2.heap.size := by omega)) | (go_at_call 19; refine (H2.out _).mono ?_; rintro e w2 ⟨rfl, hb2⟩; obtain ⟨hc2, hf2, hz2⟩ := bcell hb2; (try simp at hz2); replace hb2 := Below.via (B := w.heap.size) (a := w) (by go_grown) hb2 (by go_size); (try have hy2 : w.heap.size < w2.heap.size := by omega)))
  go_ret
  exact ⟨rfl, by go_grown⟩
theorem walk_FnExactIsMask (r c : Int) (d : Bool) (_ : (Lit.int .i64 r).wf = true) (_ : (Lit.int .i64 c).wf = true) (x : Int) (_ : (Lit.int .i64 x).wf = true) (w : World) : Calls Try.prog 5 #[.agg #[.int .i64 r, .int .i64 c, .bool d], .int .i64 x] w fun e w' => e = .returned (.bool true) ∧ Below w.heap.size w w' := by
  have H0 := hid (toMatrix_any r c d)
  have H1 := hid (sIsMask_any r c d x)
  have H2 := hid (iIsMask_any r c d x)
  go_enter Try.func5, Try.ntmps5
  go_wp2_with (first | (go_at_call 16; refine (H0.out _).mono ?_; rintro e w1 ⟨rfl, hb1⟩; obtain ⟨hc1, hf1, hz1⟩ := bcell hb1; (try simp at hz1); replace hb1 := Below.via (B := w.heap.size) (a := w) (by go_grown) hb1 (by go_size); (try have hy1 : w.heap.size < w1.heap.size := by omega)) | (go_at_call 20; refine (H1.out _).mono ?_; rintro e w2 ⟨rfl, hb2⟩; obtain ⟨hc2, hf2, hz2⟩ := bcell hb2; (try simp at hz2); replace hb2 := Below.via (B := w.heap.size) (a := w) (by go_grown) hb2 (by go_size); (try have hy2 : w.heap.size < w2.heap.size := by omega)) | (go_at_call 21; refine (H2.out _).mono ?_; rintro e w2 ⟨rfl, hb2⟩; obtain ⟨hc2, hf2, hz2⟩ := bcell hb2; (try simp at hz2); replace hb2 := Below.via (B := w.heap.size) (a := w) (by go_grown) hb2 (by go_size); (try have hy2 : w.heap.size < w2.heap.size := by omega)))
  go_ret
  exact ⟨rfl, by go_grown⟩
end Go.Proofs.Ytmhpepicmnjmgaa
