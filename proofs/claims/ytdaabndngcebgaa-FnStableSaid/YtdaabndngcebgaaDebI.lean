/- Whether a debouncer is valid, by contract in the program. Conditions: at most 2^20 ages. -/
import Derived.Test.YtdaabndngcebgaaDebA
namespace Go.Proofs.Ytdaabndngcebgaa
open Go.RowKit
set_option linter.unusedVariables false

set_option maxHeartbeats 2000000 in
theorem iIsDebouncer_any {w : World} {A : Option Addr} {n cap : Nat} {xs : List Int} (h : RdI w A n xs) (hn : n ≤ 1048576) (kd t ks sh la : Int) (b : Bool) (hb : b = true ↔ DbOk kd t ks sh la xs) :
    Calls Try.prog 27 #[dbV kd t ks sh la A n cap] w fun e w' => e = .returned (.bool b) ∧ Below w.heap.size w w' := by
  by_cases hh : Head kd t ks n
  · have hl := h.1
    obtain rfl := hh.len
    have hnn : n ≤ 24 := by have := hh.ks1; omega
    have q1 := hh.kd0
    have q2 := hh.kd1
    have q3 := hh.t0
    have q4 := hh.t1
    have q5 := hh.ks0
    have q6 := hh.ks1
    have q7 : ((n : Int) != (n : Int)) = false := by simp
    have hpos : 0 < 2 ^ n := Nat.two_pow_pos n
    have hlt : 2 ^ n ≤ 2 ^ 24 := Nat.pow_le_pow_right (by omega) hnn
    have h24 : (2 : Nat) ^ 24 = 16777216 := by decide
    have e2 : ((2 ^ n : Nat) : Int) = (2 : Int) ^ n := by simp
    have s1 := shl_one n (by omega)
    have hlt' : ((2 ^ n : Nat) : Int) ≤ 16777216 := by omega
    have hpos' : (0 : Int) < ((2 ^ n : Nat) : Int) := by omega
    rw [e2] at hlt' hpos' s1
    clear h24 hlt hpos e2
    have hb2 : b = true ↔ (0 ≤ sh ∧ sh < (2 : Int) ^ n ∧ 0 ≤ la ∧ la < (2 : Int) ^ n) ∧ ∀ i, i < n → 0 ≤ xs.getD i 0 ∧ xs.getD i 0 ≤ 99 := by
      rw [hb]
      have e : (2 : Int) ^ (n : Int).toNat = (2 : Int) ^ n := by rw [Int.toNat_natCast]
      constructor
      · intro h
        have h1 := h.sh1
        have h2 := h.la1
        rw [e] at h1 h2
        exact ⟨⟨h.sh0, h1, h.la0, h2⟩, fun i hi => h.ages _ (by rw [List.getD_eq_getElem?_getD, List.getElem?_eq_getElem (by omega)]; exact List.getElem_mem _)⟩
      · rintro ⟨⟨h1, h2, h3, h4⟩, h5⟩
        exact ⟨hl.symm ▸ hh, h1, by rw [e]; exact h2, h3, by rw [e]; exact h4, ages_of (by rw [hl]; exact h5)⟩
    have HB := hid hb2
    have HR := hid h
    have HH := hid hl
    clear h hb hh hb2 hl

    have hcs : sh < 0 ∨ (0 ≤ sh ∧ (2 : Int) ^ n ≤ sh) ∨ (0 ≤ sh ∧ sh < (2 : Int) ^ n ∧ la < 0) ∨ (0 ≤ sh ∧ sh < (2 : Int) ^ n ∧ 0 ≤ la ∧ (2 : Int) ^ n ≤ la) ∨ (0 ≤ sh ∧ sh < (2 : Int) ^ n ∧ 0 ≤ la ∧ la < (2 : Int) ^ n) := by omega
    have hbf : ¬ (0 ≤ sh ∧ sh < (2 : Int) ^ n ∧ 0 ≤ la ∧ la < (2 : Int) ^ n) → b = false := fun hx => by
      cases b with
      | false => rfl
      | true => exact absurd (HB.out.1 rfl).1 hx
    have HBF := hid hbf
    clear hbf
    rcases hcs with h1 | ⟨h1, h2⟩ | ⟨h1, h2, h3⟩ | ⟨h1, h2, h3, h4⟩ | ⟨h1, h2, h3, h4⟩
    · obtain rfl := HBF.out (by omega)
      have d0 : decide (sh < 0) = true := decide_eq_true (by omega)
      clear HBF HB
      go_enter Try.func27, Try.ntmps27
      go_wp2
      go_quiet (fail)
      go_wp2
      go_ret
      exact ⟨rfl, by (first | (go_grown; done) | (refine below_drewN ?_ _; go_grown; done) | (refine Below.drew (below_drewN ?_ _); go_grown; done))⟩
    · obtain rfl := HBF.out (by omega)
      have d0 : decide (sh < 0) = false := decide_eq_false (by omega)
      have d1 : decide ((2 : Int) ^ n ≤ sh) = true := decide_eq_true (by omega)
      clear HBF HB
      go_enter Try.func27, Try.ntmps27
      go_wp2
      go_quiet (fail)
      go_wp2
      go_ret
      exact ⟨rfl, by (first | (go_grown; done) | (refine below_drewN ?_ _; go_grown; done) | (refine Below.drew (below_drewN ?_ _); go_grown; done))⟩
    · obtain rfl := HBF.out (by omega)
      have d0 : decide (sh < 0) = false := decide_eq_false (by omega)
      have d1 : decide ((2 : Int) ^ n ≤ sh) = false := decide_eq_false (by omega)
      have d2 : decide (la < 0) = true := decide_eq_true (by omega)
      clear HBF HB
      go_enter Try.func27, Try.ntmps27
      go_wp2
      go_quiet (fail)
      go_wp2
      go_ret
      exact ⟨rfl, by (first | (go_grown; done) | (refine below_drewN ?_ _; go_grown; done) | (refine Below.drew (below_drewN ?_ _); go_grown; done))⟩
    · obtain rfl := HBF.out (by omega)
      have d0 : decide (sh < 0) = false := decide_eq_false (by omega)
      have d1 : decide ((2 : Int) ^ n ≤ sh) = false := decide_eq_false (by omega)
      have d2 : decide (la < 0) = false := decide_eq_false (by omega)
      have d3 : decide ((2 : Int) ^ n ≤ la) = true := decide_eq_true (by omega)
      clear HBF HB
      go_enter Try.func27, Try.ntmps27
      go_wp2
      go_quiet (fail)
      go_wp2
      go_ret
      exact ⟨rfl, by (first | (go_grown; done) | (refine below_drewN ?_ _; go_grown; done) | (refine Below.drew (below_drewN ?_ _); go_grown; done))⟩
    · have hb3 : b = true ↔ ∀ i, i < n → 0 ≤ xs.getD i 0 ∧ xs.getD i 0 ≤ 99 := by
        rw [HB.out]; exact ⟨fun h => h.2, fun h => ⟨⟨h1, h2, h3, h4⟩, h⟩⟩
      have HC := hid hb3
      have d0 : decide (sh < 0) = false := decide_eq_false (by omega)
      have d1 : decide ((2 : Int) ^ n ≤ sh) = false := decide_eq_false (by omega)
      have d2 : decide (la < 0) = false := decide_eq_false (by omega)
      have d3 : decide ((2 : Int) ^ n ≤ la) = false := decide_eq_false (by omega)
      clear HBF HB hb3
      go_enter Try.func27, Try.ntmps27
      go_wp2
      go_quiet (fail)
      go_wp2
      go_loop [68] (fun i => ∃ k : Nat, k ≤ n ∧ i = .int .i64 k ∧ ∀ j, j < k → 0 ≤ xs.getD j 0 ∧ xs.getD j 0 ≤ 99) (fun i => n - (intOf i).toNat)
      case atStart => exact ⟨0, Nat.zero_le _, rfl, fun j hj => by omega⟩
      case round =>
        obtain ⟨k, hk, rfl, hok⟩ := hrel
        have HOK := hid hok; clear hok
        by_cases hlk : k < n
        · obtain ⟨ad, rfl, _⟩ := HR.out.at_ hlk
          have hc : ∀ o, (w.alloc o).cell? (ad.add k) = some (.int .i64 (xs.getD k 0)) := fun o => by
            obtain ⟨ad', e, hc⟩ := (HR.out.alloc o).at_ hlk
            injection e with e
            subst e; exact hc
          have hst : 0 ≤ xs.getD k 0 ∧ xs.getD k 0 ≤ 99 → ∀ j, j < k + 1 → 0 ≤ xs.getD j 0 ∧ xs.getD j 0 ≤ 99 := fun hx j hj => by
            by_cases e : j = k
            · rw [e]; exact hx
            · exact HOK.out j (by omega)
          have hno : ¬ (0 ≤ xs.getD k 0 ∧ xs.getD k 0 ≤ 99) → b = false := fun hx => by
            cases b with
            | false => rfl
            | true => exact absurd (HC.out.1 rfl k hlk) hx
          have HST := hid hst; clear hst
          have HNO := hid hno; clear hno
          generalize xs.getD k 0 = x at *
          by_cases hx0 : x < 0
          · obtain rfl := HNO.out (by omega)
            go_wp2
            go_ret
            exact ⟨rfl, by (first | (go_grown; done) | (refine below_drewN ?_ _; go_grown; done) | (refine Below.drew (below_drewN ?_ _); go_grown; done))⟩
          · by_cases hx1 : 99 < x
            · obtain rfl := HNO.out (by omega)
              go_wp2
              go_ret
              exact ⟨rfl, by (first | (go_grown; done) | (refine below_drewN ?_ _; go_grown; done) | (refine Below.drew (below_drewN ?_ _); go_grown; done))⟩
            · have HS := hid (HST.out (by omega)); clear HST HNO
              go_wp2
              go_round
              case rel => exact ⟨k + 1, by omega, by go_num, HS.out⟩
              case measure => simp [intOf]; omega
        · obtain rfl : k = n := by omega
          obtain rfl := HC.out.2 HOK.out
          clear HC
          go_wp2
          go_ret
          exact ⟨rfl, by (first | (go_grown; done) | (refine below_drewN ?_ _; go_grown; done) | (refine Below.drew (below_drewN ?_ _); go_grown; done))⟩
  · have hbf : b = false := by
      cases b with
      | false => rfl
      | true => exact absurd (h.1 ▸ (hb.1 rfl).head) hh
    subst hbf
    clear hb
    rcases head_no hh with h1 | ⟨h1, h2⟩ | ⟨h1, h2, h3⟩ | ⟨h1, h2, h3, h4⟩ | ⟨h1, h2, h3, h4, h5⟩ | ⟨h1, h2, h3, h4, h5, h6⟩ | ⟨h1, h2, h3, h4, h5, h6, h7⟩
    all_goals
      clear hh h
      try have h8 : ((n : Int) != ks) = true := by simpa using h7
      go_enter Try.func27, Try.ntmps27
      go_wp2
      go_ret
      exact ⟨rfl, by (first | (go_grown; done) | (refine below_drewN ?_ _; go_grown; done) | (refine Below.drew (below_drewN ?_ _); go_grown; done))⟩
end Go.Proofs.Ytdaabndngcebgaa
