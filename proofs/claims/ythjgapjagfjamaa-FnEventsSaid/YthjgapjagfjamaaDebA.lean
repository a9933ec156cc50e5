/- Whether a debouncer is valid, by contract in both programs. Conditions: at most 2^20 ages. -/
import Derived.Test.YthjgapjagfjamaaChgI
namespace Go.Proofs.Ythjgapjagfjamaa
open Go.RowKit
set_option linter.unusedVariables false

/-- The debouncer's value, its ages at A. -/
abbrev dbV (kd t ks sh la : Int) (A : Option Addr) (n cap : Nat) : Value := .agg #[.int .i64 kd, .int .i64 t, .int .i64 ks, .int .i64 sh, .int .i64 la, .slice A n cap]
structure Head (kd t ks : Int) (n : Nat) : Prop where
  kd0 : 0 ≤ kd
  kd1 : kd ≤ 2
  t0 : 1 ≤ t
  t1 : t ≤ 20
  ks0 : 1 ≤ ks
  ks1 : ks ≤ 24
  len : (n : Int) = ks
structure DbOk (kd t ks sh la : Int) (xs : List Int) : Prop where
  head : Head kd t ks xs.length
  sh0 : 0 ≤ sh
  sh1 : sh < 2 ^ ks.toNat
  la0 : 0 ≤ la
  la1 : la < 2 ^ ks.toNat
  ages : ∀ a ∈ xs, 0 ≤ a ∧ a ≤ 99
theorem dbOk_bool (kd t ks sh la : Int) (xs : List Int) : ∃ b : Bool, b = true ↔ DbOk kd t ks sh la xs := by
  by_cases h : DbOk kd t ks sh la xs
  · exact ⟨true, fun _ => h, fun _ => rfl⟩
  · exact ⟨false, fun e => (by cases e), fun e => absurd e h⟩
theorem ages_of {xs : List Int} (h : ∀ i, i < xs.length → 0 ≤ xs.getD i 0 ∧ xs.getD i 0 ≤ 99) : ∀ a ∈ xs, 0 ≤ a ∧ a ≤ 99 := by
  intro a ha
  obtain ⟨i, hi, rfl⟩ := List.mem_iff_getElem.1 ha
  have := h i hi
  rwa [List.getD_eq_getElem?_getD, List.getElem?_eq_getElem hi] at this

theorem head_no {kd t ks : Int} {n : Nat} (h : ¬ Head kd t ks n) : kd < 0 ∨ (0 ≤ kd ∧ 2 < kd) ∨ (0 ≤ kd ∧ kd ≤ 2 ∧ t < 1) ∨ (0 ≤ kd ∧ kd ≤ 2 ∧ 1 ≤ t ∧ 20 < t) ∨ (0 ≤ kd ∧ kd ≤ 2 ∧ 1 ≤ t ∧ t ≤ 20 ∧ ks < 1) ∨ (0 ≤ kd ∧ kd ≤ 2 ∧ 1 ≤ t ∧ t ≤ 20 ∧ 1 ≤ ks ∧ 24 < ks) ∨ (0 ≤ kd ∧ kd ≤ 2 ∧ 1 ≤ t ∧ t ≤ 20 ∧ 1 ≤ ks ∧ ks ≤ 24 ∧ ¬ (n : Int) = ks) := by
  by_cases a1 : 0 ≤ kd
  · by_cases a2 : kd ≤ 2
    · by_cases a3 : 1 ≤ t
      · by_cases a4 : t ≤ 20
        · by_cases a5 : 1 ≤ ks
          · by_cases a6 : ks ≤ 24
            · exact .inr (.inr (.inr (.inr (.inr (.inr ⟨a1, a2, a3, a4, a5, a6, fun e => h ⟨a1, a2, a3, a4, a5, a6, e⟩⟩)))))
            · omega
          · omega
        · omega
      · omega
    · omega
  · omega
end Go.Proofs.Ythjgapjagfjamaa
