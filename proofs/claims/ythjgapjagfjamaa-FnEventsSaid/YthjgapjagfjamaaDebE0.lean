/- What the laws on drawn debouncers share: the code's size, a drawn number, a run over drawn samples. Conditions: none. -/
import Derived.Test.YthjgapjagfjamaaDebD0
namespace Go.Proofs.Ythjgapjagfjamaa
open Go.RowKit
set_option linter.unusedVariables false

/-- What the law is handed: a slice of bytes. -/
def InBytes (w : World) (A : Option Addr) (n : Nat) (zs : List Int) : Prop :=
  zs.length = n ∧ n ≤ maxLen ∧ Reads w w.heap.size 1 A n (zs.map (Value.int .u8)) ∧ ∀ z ∈ zs, (Lit.int .u8 z).wf = true
theorem InBytes.code {w : World} {A : Option Addr} {n : Nat} {zs : List Int} (h : InBytes w A n zs) (hn : n ≤ 1048576) : Code w w.heap.size A n zs :=
  ⟨h.1, h.2.2.1, fun b hb => by have := h.2.2.2 b hb; simpa [Lit.wf, IntKind.min, IntKind.max, IntKind.signed, IntKind.bits] using this, hn⟩
set_option maxRecDepth 100000 in
theorem big_any (A : Option Addr) (n cap : Nat) (w : World) : Calls Try.prog 33 #[.slice A n cap] w fun e w' => e = .returned (.bool (decide (1048576 < n))) ∧ w = w' := by
  go_enter Try.func33, Try.ntmps33
  go_wp2
  go_ret
  exact ⟨ret_bool (by rw [Bool.eq_iff_iff]; simp; omega), rfl⟩
theorem big_yes {A : Option Addr} {n cap : Nat} (h : 1048576 < n) (w : World) : Calls Try.prog 33 #[.slice A n cap] w fun e w' => e = .returned (.bool true) ∧ w = w' := by
  have := big_any A n cap w
  rwa [decide_eq_true h] at this
theorem big_no {A : Option Addr} {n cap : Nat} (h : ¬ 1048576 < n) (w : World) : Calls Try.prog 33 #[.slice A n cap] w fun e w' => e = .returned (.bool false) ∧ w = w' := by
  have := big_any A n cap w
  rwa [decide_eq_false h] at this
end Go.Proofs.Ythjgapjagfjamaa
