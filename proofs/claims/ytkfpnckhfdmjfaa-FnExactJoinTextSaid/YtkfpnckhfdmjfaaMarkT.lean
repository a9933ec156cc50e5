/- The mark of a number, as the laws write it into a slice of strings. Conditions: a number that is positive. -/
import Derived.Test.YtkfpnckhfdmjfaaTxtA
namespace Go.Proofs.Ytkfpnckhfdmjfaa
open Go.RowKit
set_option linter.unusedVariables false

theorem digit_toNat (K : Nat) : (UInt8.ofNat (48 + K % 10)).toNat = 48 + K % 10 := by
  rw [UInt8.toNat_ofNat']; omega
set_option maxRecDepth 100000 in
set_option maxHeartbeats 1000000 in
theorem markText_any (K : Nat) (h0 : 0 < K) (hK : K ≤ 1099511627776) (w : World) : Calls Try.prog 55 #[.int .i64 K] w fun e w' => e = .returned (.string (mt K)) ∧ Below w.heap.size w w' := by
  have h1 : ¬ (K : Int) ≤ 0 := by omega
  go_enter Try.func55, Try.ntmps55
  go_wp2_with fail
  go_loopw [0, 3] (fun k o wr => ∃ (j : Nat) (L : List UInt8), k = .int .i64 j ∧ j ≤ K ∧ o = .string (st L) ∧ digs j ++ L = digs K ∧ Below w.heap.size w wr) (fun k _ _ => (intOf k).toNat)
  case atStart => exact ⟨K, [], rfl, Nat.le_refl _, rfl, by simp, Below.refl _ _⟩
  case round =>
    obtain ⟨j, L, rfl, hj, rfl, hd, hbel⟩ := hrel
    have hL : L.length ≤ 1099511627776 := by
      have h2 := digs_le K
      rw [← hd, List.length_append] at h2; omega
    have HD := hid hd; clear hd
    by_cases hp : j = 0
    · subst hp
      have hz : ¬ ((ByteArray.mk #[109]).size + (st L).size > 9223372036854775807) := by rw [st_size]; have : (ByteArray.mk #[109]).size = 1 := rfl; omega
      go_wp2
      go_ret
      refine ⟨?_, hbel⟩
      have h2 := HD.out
      rw [digs_zero, List.nil_append] at h2
      unfold mt
      rw [← h2]
      exact congrArg (fun x => Ending.returned (Value.string x)) (st_append [109] L)
    · have hp2 : (0 : Int) < (j : Int) := by omega
      have hx0 := digit_toNat j
      have hd2 := digs_pos hp
      obtain ⟨x, hx⟩ : ∃ x, UInt8.ofNat (48 + j % 10) = x := ⟨_, rfl⟩
      rw [hx] at hx0 hd2
      clear hx
      have hcv := run_bytes_text (w := wr.alloc (.cells #[.int .u8 (48 + (j : Int) % 10)] 5)) 24 9 5 wr.heap.size 1 [x] 1 rfl _ _ (Blk.new _ _ _) Try.underlying24 Try.underlying5 Try.underlying9 (by
        intro i hi
        have : i = 0 := by simpa using hi
        subst this
        simp only [List.getElem_cons_zero, hx0]
        simp)
      clear hx0
      have HX := hid hd2; clear hd2
      have hz : ¬ ((st [x]).size + (st L).size > 9223372036854775807) := by rw [st_size, st_size]; simp; omega
      go_wp2
      go_roundw
      case rel => exact ⟨j / 10, x :: L, by go_num, by omega, by rw [st_append]; rfl, by have h2 := HD.out; rw [HX.out, List.append_assoc] at h2; exact h2, hbel.alloc hbel.size _⟩
      case measure => simp [intOf]; omega
theorem markText_at (j : Nat) (hj : j ≤ 1048577) (w : World) : Calls Try.prog 55 #[.int .i64 (1 + (j : Int))] w fun e w' => e = .returned (.string (mt (1 + j))) ∧ Below w.heap.size w w' := by
  have h := markText_any (1 + j) (by omega) (by omega) w
  rwa [show ((1 + j : Nat) : Int) = 1 + (j : Int) by omega] at h
end Go.Proofs.Ytkfpnckhfdmjfaa
