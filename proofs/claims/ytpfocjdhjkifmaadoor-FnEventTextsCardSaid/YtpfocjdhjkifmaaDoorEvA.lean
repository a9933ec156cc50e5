/- Single events and the constants, by contract in both programs. Conditions: none. -/
import Derived.Test.YtpfocjdhjkifmaaDoorNum
import Derived.Test.YtpfocjdhjkifmaaDoorEvMath
namespace Go.Proofs.YtpfocjdhjkifmaaDoor
open Go.RowKit
set_option linter.unusedVariables false


/-- A valid event. -/
def isEv (t k : Int) : Bool := decide (0 ≤ t) && decide (t ≤ 1000000) && decide (0 ≤ k) && decide (k ≤ 31)
theorem ev_cases (t k : Int) : t < 0 ∨ 1000000 < t ∨ (0 ≤ t ∧ t ≤ 1000000 ∧ k < 0) ∨ (0 ≤ t ∧ t ≤ 1000000 ∧ 31 < k) ∨ (0 ≤ t ∧ t ≤ 1000000 ∧ 0 ≤ k ∧ k ≤ 31) := by omega
set_option maxRecDepth 100000 in
theorem sIsEvent_any (t k : Int) (d : Bool) (w : World) : Calls Tryd.prog 72 #[.agg #[.int .i64 t, .int .i64 k, .bool d]] w fun e w' => e = .returned (.bool (isEv t k)) ∧ Below w.heap.size w w' := by
  rcases ev_cases t k with h | h | ⟨h1, h2, h⟩ | ⟨h1, h2, h⟩ | ⟨h1, h2, h3, h4⟩
  all_goals
    go_enter Tryd.func72, Tryd.ntmps72
    go_wp2_with (first | (go_at_call 43; (with_reducible refine (l1In_yes _ _ _ (by omega) _).mono ?_); rintro e w' ⟨rfl, rfl⟩) | (go_at_call 43; (with_reducible refine (l1In_no _ _ _ (by omega) _).mono ?_); rintro e w' ⟨rfl, rfl⟩))
    go_ret
    refine ⟨ret_bool ?_, by (first | (go_grown; done) | (refine below_drewN ?_ _; go_grown; done) | (refine Below.drew (below_drewN ?_ _); go_grown; done))⟩
    unfold isEv; rw [Bool.eq_iff_iff]; simp; try omega
set_option maxRecDepth 100000 in
theorem iIsEvent_any (t k : Int) (d : Bool) (w : World) : Calls Tryd.prog 87 #[.agg #[.int .i64 t, .int .i64 k, .bool d]] w fun e w' => e = .returned (.bool (isEv t k)) ∧ Below w.heap.size w w' := by
  rcases ev_cases t k with h | h | ⟨h1, h2, h⟩ | ⟨h1, h2, h⟩ | ⟨h1, h2, h3, h4⟩
  all_goals
    go_enter Tryd.func87, Tryd.ntmps87
    go_wp2
    go_ret
    refine ⟨ret_bool ?_, by (first | (go_grown; done) | (refine below_drewN ?_ _; go_grown; done) | (refine Below.drew (below_drewN ?_ _); go_grown; done))⟩
    unfold isEv; rw [Bool.eq_iff_iff]; simp; try omega
theorem toEvent_any (t k : Int) (d : Bool) (w : World) : Calls Tryd.prog 48 #[.agg #[.int .i64 t, .int .i64 k, .bool d]] w fun e w' => e = .returned (.agg #[.int .i64 t, .int .i64 k, .bool d]) ∧ Below w.heap.size w w' := by
  go_enter Tryd.func48, Tryd.ntmps48
  go_wp2
  go_returns
  exact ⟨rfl, by (first | (go_grown; done) | (refine below_drewN ?_ _; go_grown; done) | (refine Below.drew (below_drewN ?_ _); go_grown; done))⟩
end Go.Proofs.YtpfocjdhjkifmaaDoor
