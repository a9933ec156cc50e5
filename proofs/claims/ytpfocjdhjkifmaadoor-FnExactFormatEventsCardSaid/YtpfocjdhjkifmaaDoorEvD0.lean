/- What laws on events are handed. Conditions: none. -/
import Derived.Test.YtpfocjdhjkifmaaDoorEvC
namespace Go.Proofs.YtpfocjdhjkifmaaDoor
open Go.RowKit
set_option linter.unusedVariables false

/-- What a law is handed: a slice of events. -/
def InEvs (w : World) (A : Option Addr) (n : Nat) (zs : List EV.Ev) : Prop :=
  zs.length = n ∧ n ≤ maxLen ∧ Reads w w.heap.size 3 A n (evCs zs) ∧ ∀ z ∈ zs, (Lit.int .i64 z.time).wf = true ∧ (Lit.int .i64 z.key).wf = true
theorem szEventS_yes {A : Option Addr} {n cap : Nat} (h : n ≤ 1048576) (w : World) : Calls Tryd.prog 18 #[.slice A n cap, .int .i64 1048576] w fun e w' => e = .returned (.int .i64 (1048576 - (n : Int))) ∧ w = w' := by
  have h2 : ¬ ((1048576 : Int) - n < 0) := by omega
  go_enter Tryd.func18, Tryd.ntmps18
  go_wp2
  go_ret
  exact ⟨rfl, rfl⟩
theorem szEventS_no {A : Option Addr} {n cap : Nat} (h : ¬ n ≤ 1048576) (hm : n ≤ maxLen) (w : World) : Calls Tryd.prog 18 #[.slice A n cap, .int .i64 1048576] w fun e w' => e = .returned (.int .i64 (-1)) ∧ w = w' := by
  unfold maxLen at hm
  have h2 : ((1048576 : Int) - n < 0) := by omega
  go_enter Tryd.func18, Tryd.ntmps18
  go_wp2
  go_ret
  exact ⟨rfl, rfl⟩
end Go.Proofs.YtpfocjdhjkifmaaDoor
