/- Single events and the constants, by contract in both programs. Conditions: none. -/
import Derived.Test.YthjgapjagfjamaaNum
import Derived.Test.YthjgapjagfjamaaEvMath
namespace Go.Proofs.Ythjgapjagfjamaa
open Go.RowKit
set_option linter.unusedVariables false

theorem walk_FnExactConstants (w : World) : Calls Try.prog 3 #[] w fun e w' => e = .returned (.bool true) ∧ Below w.heap.size w w' := by
  go_enter Try.func3, Try.ntmps3
  go_wp2
  go_ret
  exact ⟨rfl, Below.refl _ _⟩

/-- A valid event. -/
def isEv (t k : Int) : Bool := decide (0 ≤ t) && decide (t ≤ 1000000) && decide (0 ≤ k) && decide (k ≤ 31)
theorem ev_cases (t k : Int) : t < 0 ∨ 1000000 < t ∨ (0 ≤ t ∧ t ≤ 1000000 ∧ k < 0) ∨ (0 ≤ t ∧ t ≤ 1000000 ∧ 31 < k) ∨ (0 ≤ t ∧ t ≤ 1000000 ∧ 0 ≤ k ∧ k ≤ 31) := by omega
set_option maxRecDepth 100000 in
theorem sIsEvent_any (t k : Int) (d : Bool) (w : World) : Calls Try.prog 11 #[.agg #[.int .i64 t, .int .i64 k, .bool d]] w fun e w' => e = .returned (.bool (isEv t k)) ∧ Below w.heap.size w w' := by
  rcases ev_cases t k with h | h | ⟨h1, h2, h⟩ | ⟨h1, h2, h⟩ | ⟨h1, h2, h3, h4⟩
  all_goals
    go_enter Try.func11, Try.ntmps11
    go_wp2_with (first | (go_at_call 37; (with_reducible refine (l1In_yes _ _ _ (by omega) _).mono ?_); rintro e w' ⟨rfl, rfl⟩) | (go_at_call 37; (with_reducible refine (l1In_no _ _ _ (by omega) _).mono ?_); rintro e w' ⟨rfl, rfl⟩))
    go_ret
    refine ⟨ret_bool ?_, by (first | (go_grown; done) | (refine below_drewN ?_ _; go_grown; done) | (refine Below.drew (below_drewN ?_ _); go_grown; done))⟩
    unfold isEv; rw [Bool.eq_iff_iff]; simp; try omega
set_option maxRecDepth 100000 in
theorem iIsEvent_any (t k : Int) (d : Bool) (w : World) : Calls Try.prog 13 #[.agg #[.int .i64 t, .int .i64 k, .bool d]] w fun e w' => e = .returned (.bool (isEv t k)) ∧ Below w.heap.size w w' := by
  rcases ev_cases t k with h | h | ⟨h1, h2, h⟩ | ⟨h1, h2, h⟩ | ⟨h1, h2, h3, h4⟩
  all_goals
    go_enter Try.func13, Try.ntmps13
    go_wp2
    go_ret
    refine ⟨ret_bool ?_, by (first | (go_grown; done) | (refine below_drewN ?_ _; go_grown; done) | (refine Below.drew (below_drewN ?_ _); go_grown; done))⟩
    unfold isEv; rw [Bool.eq_iff_iff]; simp; try omega
theorem toEvent_any (t k : Int) (d : Bool) (w : World) : Calls Try.prog 12 #[.agg #[.int .i64 t, .int .i64 k, .bool d]] w fun e w' => e = .returned (.agg #[.int .i64 t, .int .i64 k, .bool d]) ∧ Below w.heap.size w w' := by
  go_enter Try.func12, Try.ntmps12
  go_wp2
  go_returns
  exact ⟨rfl, by (first | (go_grown; done) | (refine below_drewN ?_ _; go_grown; done) | (refine Below.drew (below_drewN ?_ _); go_grown; done))⟩
theorem walk_FnExactIsEvent (r c : Int) (d : Bool) (_ : (Lit.int .i64 r).wf = true) (_ : (Lit.int .i64 c).wf = true) (w : World) : Calls Try.prog 4 #[.agg #[.int .i64 r, .int .i64 c, .bool d]] w fun e w' => e = .returned (.bool true) ∧ Below w.heap.size w w' := by
  have H0 := hid (toEvent_any r c d)
  have H1 := hid (sIsEvent_any r c d)
  have H2 := hid (iIsEvent_any r c d)
  go_enter Try.func4, Try.ntmps4
  go_wp2_with (first | (go_at_call 12; (with_reducible refine (H0.out _).mono ?_); rintro e w1 ⟨rfl, hb1⟩; obtain ⟨hc1, hf1, hz1, hd1⟩ := bcell hb1; (try simp at hz1); replace hb1 := Below.via (B := w.heap.size) (a := w) (by (first | (go_grown; done) | (refine below_drewN ?_ _; go_grown; done) | (refine Below.drew (below_drewN ?_ _); go_grown; done))) hb1 (by go_size); (try have hy1 : w.heap.size < w1.heap.size := by omega); (try have hyy1 : w.heap.size + 1 < w1.heap.size := by omega)) | (go_at_call 11; (with_reducible refine (H1.out _).mono ?_); rintro e w2 ⟨rfl, hb2⟩; obtain ⟨hc2, hf2, hz2, hd2⟩ := bcell hb2; (try simp at hz2); replace hb2 := Below.via (B := w.heap.size) (a := w) (by (first | (go_grown; done) | (refine below_drewN ?_ _; go_grown; done) | (refine Below.drew (below_drewN ?_ _); go_grown; done))) hb2 (by go_size); (try have hy2 : w.heap.size < w2.heap.size := by omega); (try have hyy2 : w.heap.size + 1 < w2.heap.size := by omega)) | (go_at_call 13; (with_reducible refine (H2.out _).mono ?_); rintro e w2 ⟨rfl, hb2⟩; obtain ⟨hc2, hf2, hz2, hd2⟩ := bcell hb2; (try simp at hz2); replace hb2 := Below.via (B := w.heap.size) (a := w) (by (first | (go_grown; done) | (refine below_drewN ?_ _; go_grown; done) | (refine Below.drew (below_drewN ?_ _); go_grown; done))) hb2 (by go_size); (try have hy2 : w.heap.size < w2.heap.size := by omega); (try have hyy2 : w.heap.size + 1 < w2.heap.size := by omega)))
  go_ret
  exact ⟨rfl, by go_grown⟩
end Go.Proofs.Ythjgapjagfjamaa
