/- Events as texts and let go: what the law asks, and its calls by contract. Conditions: none. -/
import Derived.Test.YtpfocjdhjkifmaaDoorEvY
import Derived.Test.YtpfocjdhjkifmaaDoorEvK0
import Derived.Test.YtpfocjdhjkifmaaDoorPevI
import Derived.Deep.RegionHeld3
namespace Go.Proofs.YtpfocjdhjkifmaaDoor
open Go.RowKit
set_option linter.unusedVariables false

/-- What the law is handed: a slice of bytes. -/
def InBytes (w : World) (A : Option Addr) (n : Nat) (zs : List Int) : Prop :=
  zs.length = n ∧ n ≤ maxLen ∧ Reads w w.heap.size 1 A n (zs.map (Value.int .u8)) ∧ ∀ z ∈ zs, (Lit.int .u8 z).wf = true
theorem InBytes.code {w : World} {A : Option Addr} {n : Nat} {zs : List Int} (h : InBytes w A n zs) (hn : n ≤ 1048576) : Code w w.heap.size A n zs :=
  ⟨h.1, h.2.2.1, fun b hb => by have := h.2.2.2 b hb; simpa [Lit.wf, IntKind.min, IntKind.max, IntKind.signed, IntKind.bits] using this, hn⟩
set_option maxRecDepth 100000 in
theorem big_any (A : Option Addr) (n cap : Nat) (w : World) : Calls Tryd.prog 28 #[.slice A n cap] w fun e w' => e = .returned (.bool (decide (1048576 < n))) ∧ w = w' := by
  go_enter Tryd.func28, Tryd.ntmps28
  go_wp2
  go_ret
  exact ⟨ret_bool (by rw [Bool.eq_iff_iff]; simp; omega), rfl⟩
theorem big_yes {A : Option Addr} {n cap : Nat} (h : 1048576 < n) (w : World) : Calls Tryd.prog 28 #[.slice A n cap] w fun e w' => e = .returned (.bool true) ∧ w = w' := by
  have := big_any A n cap w
  rwa [decide_eq_true h] at this
theorem big_no {A : Option Addr} {n cap : Nat} (h : ¬ 1048576 < n) (w : World) : Calls Tryd.prog 28 #[.slice A n cap] w fun e w' => e = .returned (.bool false) ∧ w = w' := by
  have := big_any A n cap w
  rwa [decide_eq_false h] at this
set_option maxRecDepth 100000 in
set_option maxHeartbeats 1000000 in
/-- Two slices that read as the same events. -/
theorem sameEvents_same {w : World} {A B : Option Addr} {n c d : Nat} {xs : List EV.Ev} (h : RdE w A n xs) (h' : RdE w B n xs) (hn : n ≤ 1048576) : Calls Tryd.prog 33 #[.slice A n c, .slice B n d] w fun e w' => e = .returned (.bool true) ∧ Below w.heap.size w w' := by
  have HA := hid h; clear h
  have HB := hid h'; clear h'
  go_enter Tryd.func33, Tryd.ntmps33
  go_wp2
  go_loopw [5] (fun i wr => ∃ k q : Nat, k ≤ n ∧ i = .int .i64 k ∧ wr = w.drewN q) (fun i _ => n - (intOf i).toNat)
  case atStart => exact ⟨0, 0, Nat.zero_le _, rfl, rfl⟩
  case round =>
    obtain ⟨k, q, hk, rfl, rfl⟩ := hrel
    by_cases hlt : k < n
    · obtain ⟨ad, rfl, a0, a1, a2, _⟩ := HA.out.at3 hlt
      obtain ⟨bd, rfl, b0, b1, b2, _⟩ := HB.out.at3 hlt
      have hk0 : (0 : Int) ≤ (k : Int) := by omega
      have hkn : (k : Int) < (n : Int) := by omega
      generalize xs.getD k evD = v at *
      obtain ⟨t, key, dn⟩ := v
      simp only at a0 a1 a2 b0 b1 b2
      go_wp2
      go_quiet (fail)
      go_wp2
      go_roundw
      case rel => exact ⟨k + 1, _, by omega, by go_num, rfl⟩
      case measure => simp [intOf]; omega
    · obtain rfl : k = n := by omega
      go_wp2
      go_ret
      exact ⟨rfl, below_drewN (Below.refl _ _) _⟩
/-- The keys of a mask below k. -/
def cntB (m : Nat) : Nat → Nat
  | 0 => 0
  | k + 1 => cntB m k + (if m.testBit k then 1 else 0)
theorem cntB_le (m : Nat) : ∀ k, cntB m k ≤ k
  | 0 => Nat.le_refl _
  | k + 1 => by have := cntB_le m k; rw [cntB]; split <;> omega
theorem cntB_high {m : Nat} (h : m < 64) : ∀ k, 6 ≤ k → cntB m k = cntB m 6
  | 0, hk => by omega
  | k + 1, hk => by
    by_cases e : 6 = k + 1
    · rw [← e]
    · have h2 : m.testBit k = false := Nat.testBit_lt_two_pow (Nat.lt_of_lt_of_le h (show 64 ≤ 2 ^ k from Nat.pow_le_pow_right (n := 2) (i := 6) (by omega) (by omega)))
      rw [cntB, h2, cntB_high h k (by omega)]; simp
theorem evB_cnt (m : Nat) (t : Int) : ∀ k, (EV.evB m 0 t k).length = cntB m k
  | 0 => rfl
  | k + 1 => by
    rw [EV.evB, cntB, Nat.zero_testBit]
    have ih := evB_cnt m t k
    cases h : m.testBit k
    · simp [ih]
    · simp [ih]
set_option maxHeartbeats 1000000 in
theorem count_any (m : Nat) (hm : m < 64) (w : World) : Calls Tryd.prog 35 #[.int .i64 m] w fun e w' => e = .returned (.int .i64 (cntB m 40 : Nat)) ∧ w = w' := by
  go_enter Tryd.func35, Tryd.ntmps35
  go_wp2
  go_loop [3, 4] (fun x i => ∃ k : Nat, k ≤ 40 ∧ i = .int .i64 k ∧ x = .int .i64 (cntB m k : Nat)) (fun _ i => 40 - (intOf i).toNat)
  case atStart => exact ⟨0, Nat.zero_le _, rfl, rfl⟩
  case round =>
    obtain ⟨k, hk, rfl, rfl⟩ := hrel
    by_cases hlt : k < 40
    · have hle := cntB_le m k
      have e1 := and_one_shr (m : Int) k (by omega)
      rw [tbI_nat] at e1
      have e2 : (k : Int) < 40 := by omega
      have hst : cntB m (k + 1) = cntB m k + (if m.testBit k then 1 else 0) := rfl
      cases hb : m.testBit k
      · rw [hb] at e1 hst
        simp only [Bool.false_eq_true, if_false] at e1 hst
        clear hb
        go_wp2
        go_round
        case rel => exact ⟨k + 1, by omega, by go_num, by rw [hst]; go_num⟩
        case measure => simp [intOf]; omega
      · rw [hb] at e1 hst
        simp only [if_true] at e1 hst
        clear hb
        go_wp2
        go_round
        case rel => exact ⟨k + 1, by omega, by go_num, by rw [hst]; go_num⟩
        case measure => simp [intOf]; omega
    · obtain rfl : k = 40 := by omega
      go_wp2
      go_ret
      exact ⟨rfl, rfl⟩
end Go.Proofs.YtpfocjdhjkifmaaDoor
