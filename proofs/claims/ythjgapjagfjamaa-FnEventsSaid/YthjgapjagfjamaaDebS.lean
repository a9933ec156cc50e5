/- Whether a debouncer is valid, by contract in the reference. Conditions: at most 2^20 ages. -/
import Derived.Test.YthjgapjagfjamaaDebA
namespace Go.Proofs.Ythjgapjagfjamaa
open Go.RowKit
set_option linter.unusedVariables false

set_option maxHeartbeats 2000000 in
theorem sIsDebouncer_any {w : World} {A : Option Addr} {n cap : Nat} {xs : List Int} (h : RdI w A n xs) (hn : n ≤ 1048576) (kd t ks sh la : Int) (b : Bool) (hb : b = true ↔ DbOk kd t ks sh la xs) :
    Calls Try.prog 49 #[dbV kd t ks sh la A n cap] w fun e w' => e = .returned (.bool b) ∧ Below w.heap.size w w' := by
  have HL := hid (fun x lo hi => l1In_any x lo hi)
  by_cases hh : Head kd t ks n
  · have hl := h.1
    obtain rfl := hh.len
    have H1 := hid (inB_true (show 0 ≤ kd ∧ kd ≤ 2 from ⟨hh.kd0, hh.kd1⟩) ▸ l1In_any kd 0 2)
    have H2 := hid (inB_true (show 1 ≤ t ∧ t ≤ 20 from ⟨hh.t0, hh.t1⟩) ▸ l1In_any t 1 20)
    have H3 := hid (inB_true (show 1 ≤ (n : Int) ∧ (n : Int) ≤ 24 from ⟨hh.ks0, hh.ks1⟩) ▸ l1In_any (n : Int) 1 24)
    have hnn : n ≤ 24 := by have := hh.ks1; omega
    have e2 : ((2 ^ n : Nat) : Int) = (2 : Int) ^ n := by simp
    have h24 : (2 : Nat) ^ 24 = 16777216 := by decide
    have s1 := shl_one n (by omega)
    have hpos : 0 < 2 ^ n := Nat.two_pow_pos n
    have hlt : 2 ^ n ≤ 2 ^ 24 := Nat.pow_le_pow_right (by omega) hnn
    have hlt' : ((2 ^ n : Nat) : Int) ≤ 16777216 := by omega
    have hpos' : (0 : Int) < ((2 ^ n : Nat) : Int) := by omega
    rw [e2] at hlt' hpos' s1
    clear h24 hlt hpos e2
    have s2 : IntKind.i64.wrap ((2 : Int) ^ n - 1) = (2 : Int) ^ n - 1 := IntWalk.i64_in _ ⟨by omega, by omega⟩
    have hb2 : b = true ↔ (inB 0 ((2 : Int) ^ n - 1) sh = true ∧ inB 0 ((2 : Int) ^ n - 1) la = true) ∧ ∀ i, i < n → 0 ≤ xs.getD i 0 ∧ xs.getD i 0 ≤ 99 := by
      rw [hb]
      have e : (2 : Int) ^ (n : Int).toNat = (2 : Int) ^ n := by rw [Int.toNat_natCast]
      constructor
      · intro h
        have h1 := h.sh1
        have h2 := h.la1
        rw [e] at h1 h2
        exact ⟨⟨inB_true ⟨h.sh0, by omega⟩, inB_true ⟨h.la0, by omega⟩⟩, fun i hi => h.ages _ (by rw [List.getD_eq_getElem?_getD, List.getElem?_eq_getElem (by omega)]; exact List.getElem_mem _)⟩
      · rintro ⟨⟨h1, h2⟩, h5⟩
        have h1 := inB_out h1
        have h2 := inB_out h2
        exact ⟨hl.symm ▸ hh, h1.1, by rw [e]; omega, h2.1, by rw [e]; omega, ages_of (by rw [hl]; exact h5)⟩
    have H5 := l1In_any sh 0 ((2 : Int) ^ n - 1)
    have H6 := l1In_any la 0 ((2 : Int) ^ n - 1)
    generalize inB 0 ((2 : Int) ^ n - 1) sh = c5 at H5 hb2
    generalize inB 0 ((2 : Int) ^ n - 1) la = c6 at H6 hb2
    have H5 := hid H5
    have H6 := hid H6
    have HR := hid h
    have HB := hid hb2
    have HLL := hid hl
    clear h hb hh hb2 hl
    go_enter Try.func49, Try.ntmps49
    go_wp2_with (go_at_call 37; first | ((with_reducible refine (H1.out _).mono ?_); rintro e w' ⟨rfl, rfl⟩) | ((with_reducible refine (H2.out _).mono ?_); rintro e w' ⟨rfl, rfl⟩) | ((with_reducible refine (H3.out _).mono ?_); rintro e w' ⟨rfl, rfl⟩))
    go_loop [3] (fun i => ∃ k : Nat, k ≤ n ∧ i = .int .i64 k ∧ ∀ j, j < k → 0 ≤ xs.getD j 0 ∧ xs.getD j 0 ≤ 99) (fun i => n - (intOf i).toNat)
    case atStart => exact ⟨0, Nat.zero_le _, rfl, fun j hj => by omega⟩
    case round =>
      obtain ⟨k, hk, rfl, hok⟩ := hrel
      have HOK := hid hok; clear hok
      by_cases hlk : k < n
      · obtain ⟨ad, rfl, _⟩ := HR.out.at_ hlk
        have hc : ∀ o, (w.alloc o).cell? (ad.add k) = some (.int .i64 (xs.getD k 0)) := fun o => by
          obtain ⟨ad', e, hc⟩ := (HR.out.alloc o).at_ hlk
          injection e with e
          subst e; exact hc
        have hst : 0 ≤ xs.getD k 0 ∧ xs.getD k 0 ≤ 99 → ∀ j, j < k + 1 → 0 ≤ xs.getD j 0 ∧ xs.getD j 0 ≤ 99 := fun hx j hj => by
          by_cases e : j = k
          · rw [e]; exact hx
          · exact HOK.out j (by omega)
        have hno : ¬ (0 ≤ xs.getD k 0 ∧ xs.getD k 0 ≤ 99) → b = false := fun hx => by
          cases b with
          | false => rfl
          | true =>
            exact absurd ((HB.out.1 rfl).2 k hlk) hx
        have H4 := l1In_any (xs.getD k 0) 0 99
        have HST := hid hst; clear hst
        have HNO := hid hno; clear hno
        cases e4 : inB 0 99 (xs.getD k 0) with
        | true =>
          have hx := inB_out e4
          have HST2 := hid (HST.out hx)
          rw [e4] at H4
          have H4 := hid H4
          clear HST HNO e4 hx
          generalize xs.getD k 0 = x at *
          go_wp2_with (go_at_call 37; ((with_reducible refine (H4.out _).mono ?_); rintro e w' ⟨rfl, rfl⟩))
          go_round
          case rel => exact ⟨k + 1, by omega, by go_num, HST2.out⟩
          case measure => simp [intOf]; omega
        | false =>
          have hbf := HNO.out (fun hx => by rw [inB_true hx] at e4; cases e4)
          subst hbf
          rw [e4] at H4
          have H4 := hid H4
          clear HST HNO e4
          generalize xs.getD k 0 = x at *
          go_wp2_with (go_at_call 37; ((with_reducible refine (H4.out _).mono ?_); rintro e w' ⟨rfl, rfl⟩))
          go_ret
          exact ⟨rfl, by (first | (go_grown; done) | (refine below_drewN ?_ _; go_grown; done) | (refine Below.drew (below_drewN ?_ _); go_grown; done))⟩
      · obtain rfl : k = n := by omega
        cases c5 <;> cases c6
        · obtain rfl : b = false := by
            cases b with
            | false => rfl
            | true => exact absurd (HB.out.1 rfl).1.1 (by simp)
          clear HB
          go_wp2_with fail
          go_quiet (first | ((with_reducible refine (H5.out _).mono ?_); rintro e w' ⟨rfl, rfl⟩; exact ⟨rfl, _, rfl⟩) | ((with_reducible refine (H6.out _).mono ?_); rintro e w' ⟨rfl, rfl⟩; exact ⟨rfl, _, rfl⟩))
          go_wp2
          go_ret
          exact ⟨rfl, by (first | (go_grown; done) | (refine below_drewN ?_ _; go_grown; done) | (refine Below.drew (below_drewN ?_ _); go_grown; done))⟩
        · obtain rfl : b = false := by
            cases b with
            | false => rfl
            | true => exact absurd (HB.out.1 rfl).1.1 (by simp)
          clear HB
          go_wp2_with fail
          go_quiet (first | ((with_reducible refine (H5.out _).mono ?_); rintro e w' ⟨rfl, rfl⟩; exact ⟨rfl, _, rfl⟩) | ((with_reducible refine (H6.out _).mono ?_); rintro e w' ⟨rfl, rfl⟩; exact ⟨rfl, _, rfl⟩))
          go_wp2
          go_ret
          exact ⟨rfl, by (first | (go_grown; done) | (refine below_drewN ?_ _; go_grown; done) | (refine Below.drew (below_drewN ?_ _); go_grown; done))⟩
        · obtain rfl : b = false := by
            cases b with
            | false => rfl
            | true => exact absurd (HB.out.1 rfl).1.2 (by simp)
          clear HB
          go_wp2_with fail
          go_quiet (first | ((with_reducible refine (H5.out _).mono ?_); rintro e w' ⟨rfl, rfl⟩; exact ⟨rfl, _, rfl⟩) | ((with_reducible refine (H6.out _).mono ?_); rintro e w' ⟨rfl, rfl⟩; exact ⟨rfl, _, rfl⟩))
          go_wp2
          go_ret
          exact ⟨rfl, by (first | (go_grown; done) | (refine below_drewN ?_ _; go_grown; done) | (refine Below.drew (below_drewN ?_ _); go_grown; done))⟩
        · obtain rfl : b = true := HB.out.2 ⟨⟨rfl, rfl⟩, HOK.out⟩
          clear HB
          go_wp2_with fail
          go_quiet (first | ((with_reducible refine (H5.out _).mono ?_); rintro e w' ⟨rfl, rfl⟩; exact ⟨rfl, _, rfl⟩) | ((with_reducible refine (H6.out _).mono ?_); rintro e w' ⟨rfl, rfl⟩; exact ⟨rfl, _, rfl⟩))
          go_wp2
          go_ret
          exact ⟨rfl, by (first | (go_grown; done) | (refine below_drewN ?_ _; go_grown; done) | (refine Below.drew (below_drewN ?_ _); go_grown; done))⟩
  · have hbf : b = false := by
      cases b with
      | false => rfl
      | true => exact absurd (h.1 ▸ (hb.1 rfl).head) hh
    subst hbf
    clear hb
    have hq : inB 0 2 kd = false ∨ (inB 0 2 kd = true ∧ inB 1 20 t = false) ∨ (inB 0 2 kd = true ∧ inB 1 20 t = true ∧ inB 1 24 ks = false) ∨ (inB 0 2 kd = true ∧ inB 1 20 t = true ∧ inB 1 24 ks = true ∧ ¬ (n : Int) = ks) := by
      cases e1 : inB 0 2 kd with
      | false => exact .inl rfl
      | true =>
        cases e2 : inB 1 20 t with
        | false => exact .inr (.inl ⟨rfl, rfl⟩)
        | true =>
          cases e3 : inB 1 24 ks with
          | false => exact .inr (.inr (.inl ⟨rfl, rfl, rfl⟩))
          | true =>
            refine .inr (.inr (.inr ⟨rfl, rfl, rfl, fun e => hh ?_⟩))
            have a1 := inB_out e1
            have a2 := inB_out e2
            have a3 := inB_out e3
            exact ⟨a1.1, a1.2, a2.1, a2.2, a3.1, a3.2, e⟩
    have H1 := l1In_any kd 0 2
    have H2 := l1In_any t 1 20
    have H3 := l1In_any ks 1 24
    clear h hh HL
    generalize inB 0 2 kd = b1 at *
    generalize inB 1 20 t = b2 at *
    generalize inB 1 24 ks = b3 at *
    have H1 := hid H1
    have H2 := hid H2
    have H3 := hid H3
    rcases hq with rfl | ⟨rfl, rfl⟩ | ⟨rfl, rfl, rfl⟩ | ⟨rfl, rfl, rfl, hne⟩
    all_goals
      go_enter Try.func49, Try.ntmps49
      go_wp2_with (go_at_call 37; first | ((with_reducible refine (H1.out _).mono ?_); rintro e w' ⟨rfl, rfl⟩) | ((with_reducible refine (H2.out _).mono ?_); rintro e w' ⟨rfl, rfl⟩) | ((with_reducible refine (H3.out _).mono ?_); rintro e w' ⟨rfl, rfl⟩))
      go_ret
      exact ⟨rfl, by (first | (go_grown; done) | (refine below_drewN ?_ _; go_grown; done) | (refine Below.drew (below_drewN ?_ _); go_grown; done))⟩
end Go.Proofs.Ythjgapjagfjamaa
