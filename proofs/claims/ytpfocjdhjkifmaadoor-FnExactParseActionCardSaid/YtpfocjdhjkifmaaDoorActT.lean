/- An action between the laws' form and the program's, compared. Conditions: none. -/
import Derived.Test.YtpfocjdhjkifmaaDoorActA
namespace Go.Proofs.YtpfocjdhjkifmaaDoor
open Go.RowKit
set_option linter.unusedVariables false

abbrev actW (k c m n : Int) : Value := .agg #[.int .i64 k, .int .i64 c, .int .i64 m, .int .i64 n]
theorem toAct_any (k c m n : Int) (w : World) : Calls Tryd.prog 26 #[actW k c m n] w fun e w' => e = .returned (actW k c m n) ∧ Below w.heap.size w w' := by
  go_enter Tryd.func26, Tryd.ntmps26
  go_wp2
  go_returns
  exact ⟨rfl, by (first | (go_grown; done) | (refine below_drewN ?_ _; go_grown; done) | (refine Below.drew (below_drewN ?_ _); go_grown; done))⟩
end Go.Proofs.YtpfocjdhjkifmaaDoor
