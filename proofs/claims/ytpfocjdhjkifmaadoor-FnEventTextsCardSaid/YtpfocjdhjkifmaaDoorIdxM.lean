/- Bytes that a code point takes: none of them is a sign. Conditions: none; no program in sight. -/
import Derived.Laws.RangeAny
import Derived.Lib.IndexAny
namespace Go.Proofs.YtpfocjdhjkifmaaDoor
set_option linter.unusedVariables false

theorem cont_high {s : ByteArray} {i : Nat} (h : (decide (i < s.size) && (s.get! i).toNat / 64 == 2) = true) : i < s.size ∧ 128 ≤ (s.get! i).toNat := by
  rw [Bool.and_eq_true, decide_eq_true_eq, beq_iff_eq] at h
  exact ⟨h.1, by omega⟩
theorem decode_skip (s : ByteArray) (pos : Nat) (h : pos < s.size) (ha : 128 ≤ (s[pos]'h).toNat) :
    ∀ k, k < (Utf8.decode s pos).2 → pos + k < s.size ∧ 128 ≤ (s.get! (pos + k)).toNat := by
  have hn : ¬ (s[pos]'h).toNat < 128 := by omega
  have h0 : pos + 0 < s.size ∧ 128 ≤ (s.get! (pos + 0)).toNat := ⟨h, by rw [get_at s pos h]; exact ha⟩
  intro k hk
  have hk0 : k = 0 ∨ k = 1 ∨ k = 2 ∨ k = 3 ∨ 4 ≤ k := by omega
  simp only [Utf8.decode, get_at s pos h, hn, if_false] at hk
  split at hk
  · rename_i hc
    rw [Bool.and_eq_true] at hc
    have c1 := cont_high hc.2
    split at hk
    · rcases hk0 with rfl | rfl | rfl | rfl | hk4
      · exact h0
      · exact c1
      · exact absurd hk (show ¬ (2 : Nat) < 2 by decide)
      · exact absurd hk (show ¬ (3 : Nat) < 2 by decide)
      · exact absurd hk (show ¬ k < 2 by omega)
    · have : k = 0 := by have : k < 1 := hk; omega
      subst this; exact h0
  · split at hk
    · rename_i hc
      rw [Bool.and_eq_true, Bool.and_eq_true] at hc
      have c1 := cont_high hc.1.2
      have c2 := cont_high hc.2
      split at hk
      · rcases hk0 with rfl | rfl | rfl | rfl | hk4
        · exact h0
        · exact c1
        · exact c2
        · exact absurd hk (show ¬ (3 : Nat) < 3 by decide)
        · exact absurd hk (show ¬ k < 3 by omega)
      · have : k = 0 := by have : k < 1 := hk; omega
        subst this; exact h0
    · split at hk
      · rename_i hc
        rw [Bool.and_eq_true, Bool.and_eq_true, Bool.and_eq_true] at hc
        have c1 := cont_high hc.1.1.2
        have c2 := cont_high hc.1.2
        have c3 := cont_high hc.2
        split at hk
        · rcases hk0 with rfl | rfl | rfl | rfl | hk4
          · exact h0
          · exact c1
          · exact c2
          · exact c3
          · exact absurd hk (show ¬ k < 4 by omega)
        · have : k = 0 := by have : k < 1 := hk; omega
          subst this; exact h0
      · have : k = 0 := by have : k < 1 := hk; omega
        subst this; exact h0
theorem decode_max (s : ByteArray) (pos : Nat) : (Utf8.decode s pos).1 ≤ 1114111 := by
  have hb : ∀ k, (s.get! (pos + k)).toNat < 256 := fun k => (s.get! (pos + k)).toNat_lt
  have h0 := hb 0; have h1 := hb 1; have h2 := hb 2; have h3 := hb 3
  simp only [Utf8.decode]
  repeat' split
  all_goals simp_all [Utf8.runeError, Utf8.valid]
  all_goals omega
theorem get_data (s : ByteArray) (i : Nat) (h : i < s.size) {b : UInt8} (hb : s.data.toList[i]? = some b) : s.get! i = b := by
  have h2 := get_at s i h
  rw [Nat.add_zero] at h2
  rw [h2]
  have h3 : s.data.toList[i]? = some (s[i]'h) := Lib.data_getElem? s i h
  rw [h3] at hb
  exact Option.some.inj hb
/-- None of the bytes that a code point takes is a sign. -/
theorem noAny_skip {s : ByteArray} {pos : Nat} (h : pos < s.size) (ha : 128 ≤ (s[pos]'h).toNat) (hno : Lib.NoAny s.data.toList [43, 45] pos) : Lib.NoAny s.data.toList [43, 45] (pos + (Utf8.decode s pos).2) := by
  intro j b hj hb
  by_cases hlt : j < pos
  · exact hno j b hlt hb
  · obtain ⟨k, rfl⟩ : ∃ k, j = pos + k := ⟨j - pos, by omega⟩
    obtain ⟨h1, h2⟩ := decode_skip s pos h ha k (by omega)
    rw [get_data s _ h1 hb] at h2
    have n1 : ¬ b = 43 := by rintro rfl; revert h2; decide
    have n2 : ¬ b = 45 := by rintro rfl; revert h2; decide
    simp [n1, n2]
theorem skip_le {s : ByteArray} {pos : Nat} (h : pos < s.size) (ha : 128 ≤ (s[pos]'h).toNat) : pos + (Utf8.decode s pos).2 ≤ s.size := by
  have h1 := (decode_high s pos h ha).2
  have h2 := (decode_skip s pos h ha ((Utf8.decode s pos).2 - 1) (by omega)).1
  omega
end Go.Proofs.YtpfocjdhjkifmaaDoor
