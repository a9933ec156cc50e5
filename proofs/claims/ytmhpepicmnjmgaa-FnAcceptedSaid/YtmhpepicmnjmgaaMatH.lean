/- Certain keys and accepting, by their contract in both programs. Conditions: none. -/
import Derived.Test.YtmhpepicmnjmgaaMatG
namespace Go.Proofs.Ytmhpepicmnjmgaa
open Go.RowKit
set_option linter.unusedVariables false

def clrI (r c : Int) (d : Bool) (x : Int) : Int := if isRd r c d x then ((MM.clr d r.toNat c.toNat x.toNat (r.toNat * c.toNat) : Nat) : Int) else 0
theorem clrI_mx {R C k X : Nat} {d : Bool} (h : Mx R C k) (hX : X < 2 ^ k) (hr : MM.rd d R C X = X) : clrI R C d X = ((MM.clr d R C X k : Nat) : Int) := by
  unfold clrI; rw [rd_yes h hX hr, h.k]; simp
theorem clrI_no {r c x : Int} {d : Bool} (h : isRd r c d x = false) : clrI r c d x = 0 := by unfold clrI; rw [h]; rfl

theorem or_key {R C k X K : Nat} {d : Bool} (h : Mx R C k) (hX : X < 2 ^ k) (hK : K < k) : bits .or .i64 ((MM.clr d R C X K : Nat) : Int) ((2 : Int) ^ K) = ((MM.clr d R C X K ||| 2 ^ K : Nat) : Int) := by
  have h1 := x24 h (MM.clr_lt (D := d) (R := R) (C := C) hX K (by omega))
  have k24 := h.k24
  have hp : 2 ^ K < 2 ^ 24 := Nat.pow_lt_pow_right (by omega) (by omega)
  have h4 : (2 : Nat) ^ 24 = 16777216 := by decide
  have e : (2 : Int) ^ K = ((2 ^ K : Nat) : Int) := by simp
  rw [e]; exact i64_or_nat _ _ (by omega) (by omega)
theorem clr_step (d : Bool) (R C X K : Nat) (b a : Bool) (hb : X.testBit K = b) (ha : MM.alt d R C X K = a) : MM.clr d R C X (K + 1) = if b && !a then MM.clr d R C X K ||| 2 ^ K else MM.clr d R C X K := by
  rw [MM.clr, hb, ha]


theorem iAlt_at {R C k X K : Nat} {d : Bool} (h : Mx R C k) (hX : X < 2 ^ k) (hr : MM.rd d R C X = X) (hK : K < k) (w : World) : Calls Try.prog 26 #[.agg #[.int .i64 R, .int .i64 C, .bool d], .int .i64 X, .int .i64 K] w fun e w' => e = .returned (.tuple #[.int .i64 (altV R C d X K), .bool (MM.alt d R C X K)]) ∧ Below w.heap.size w w' := by
  have := iAlternative_any R C d X K w
  rwa [alt_mx h hX hr hK] at this

theorem sAlt_at {R C k X K : Nat} {d : Bool} (h : Mx R C k) (hX : X < 2 ^ k) (hr : MM.rd d R C X = X) (hK : K < k) (w : World) : Calls Try.prog 32 #[.agg #[.int .i64 R, .int .i64 C, .bool d], .int .i64 X, .int .i64 K] w fun e w' => e = .returned (.tuple #[.int .i64 (altV R C d X K), .bool (MM.alt d R C X K)]) ∧ Below w.heap.size w w' := by
  have := sAlternative_any R C d X K w
  rwa [alt_mx h hX hr hK] at this

theorem iClearKeys_any (r c : Int) (d : Bool) (x : Int) (w : World) : Calls Try.prog 25 #[.agg #[.int .i64 r, .int .i64 c, .bool d], .int .i64 x] w fun e w' => e = .returned (.int .i64 (clrI r c d x)) ∧ Below w.heap.size w w' := by
  have H0 := iIsReading_any r c d x
  cases h : isRd r c d x with
  | false =>
    rw [h] at H0
    rw [clrI_no h]
    have H0 := hid H0
    clear h
    go_enter Try.func25, Try.ntmps25
    go_wp2_with (go_at_call 28; (with_reducible refine (H0.out _).mono ?_); rintro e w1 ⟨rfl, hb1⟩; obtain ⟨hc1, hf1, hz1, hd1⟩ := bcell hb1; (try simp at hz1); replace hb1 := Below.via (B := w.heap.size) (a := w) (by (first | (go_grown; done) | (refine below_drewN ?_ _; go_grown; done) | (refine Below.drew (below_drewN ?_ _); go_grown; done))) hb1 (by go_size); (try have hy1 : w.heap.size < w1.heap.size := by omega); (try have hyy1 : w.heap.size + 1 < w1.heap.size := by omega))
    go_ret
    exact ⟨rfl, by (first | (go_grown; done) | (refine below_drewN ?_ _; go_grown; done) | (refine Below.drew (below_drewN ?_ _); go_grown; done))⟩
  | true =>
    rw [h] at H0
    obtain ⟨R, C, k, X, rfl, rfl, rfl, hm, hX, hr⟩ := rd_of h
    rw [clrI_mx hm hX hr]
    have Hk := hid (iKeyCount_yes hm d)
    have H0 := hid H0
    have k24 := hm.k24
    have Hm := hid hm; clear hm
    have HX := hid hX; clear hX
    have HR := hid hr; clear hr h
    go_enter Try.func25, Try.ntmps25
    go_wp2_with (first | (go_at_call 28; (with_reducible refine (H0.out _).mono ?_); rintro e w1 ⟨rfl, hb1⟩; obtain ⟨hc1, hf1, hz1, hd1⟩ := bcell hb1; (try simp at hz1); replace hb1 := Below.via (B := w.heap.size) (a := w) (by (first | (go_grown; done) | (refine below_drewN ?_ _; go_grown; done) | (refine Below.drew (below_drewN ?_ _); go_grown; done))) hb1 (by go_size); (try have hy1 : w.heap.size < w1.heap.size := by omega); (try have hyy1 : w.heap.size + 1 < w1.heap.size := by omega)) | (go_at_call 19; (with_reducible refine (Hk.out _).mono ?_); rintro e w2 ⟨rfl, hb2⟩; obtain ⟨hc2, hf2, hz2, hd2⟩ := bcell hb2; (try simp at hz2); replace hb2 := Below.via (B := w.heap.size) (a := w) (by (first | (go_grown; done) | (refine below_drewN ?_ _; go_grown; done) | (refine Below.drew (below_drewN ?_ _); go_grown; done))) hb2 (by go_size); (try have hy2 : w.heap.size < w2.heap.size := by omega); (try have hyy2 : w.heap.size + 1 < w2.heap.size := by omega)))
    go_loopw [5, 15] (fun o i wr => ∃ j : Nat, j ≤ k ∧ i = .int .i64 j ∧ o = .int .i64 (MM.clr d R C X j : Nat) ∧ BoxM wr w.heap.size R C d ∧ Below w.heap.size w wr) (fun _ i _ => k - (intOf i).toNat)
    case atStart => exact ⟨0, Nat.zero_le _, rfl, rfl, ⟨by simp [*], by simp [*], by simp [*]⟩, hb2⟩
    case round =>
      clear hc1 hf1 hz1 hb1 hy1 hc2 hf2 hz2 hb2 hy2 hd1 hd2
      obtain ⟨j, hj, rfl, rfl, hbox, hbel⟩ := hrel
      obtain ⟨m0, m1, m2⟩ := hbox
      by_cases hjk : j < k
      · obtain ⟨e1, _, _, e4⟩ := key_facts (d := d) Hm.out HX.out hjk
        have e5 := or_key (d := d) Hm.out HX.out hjk
        have Ha := hid (iAlt_at Hm.out HX.out HR.out hjk)
        have hst := clr_step d R C X j
        cases hbit : X.testBit j <;> cases hal : MM.alt d R C X j
        all_goals
          have hst := hst _ _ hbit hal
          rw [hal] at Ha
          rw [hbit] at e1
          simp only [if_true, Bool.false_eq_true, if_false] at e1
          have HS := hid hst; clear hst
          have HB := hid hbit; clear hbit
          have HA := hid hal; clear hal
          generalize altV R C d X j = av at Ha
          generalize MM.clr d R C X j = o at e5 HS
          go_wp2_with (go_at_call 26; (with_reducible refine (Ha.out _).mono ?_); rintro e w4 ⟨rfl, hb4⟩; obtain ⟨hc4, hf4, hz4, hd4⟩ := bcell hb4; replace hb4 := Below.step (by first | assumption | exact Below.drew (by assumption)) hb4)
          go_roundw
          case rel => exact ⟨j + 1, by omega, by go_num, by rw [HS.out]; rfl, ⟨by (first | assumption | (simp (maxDischargeDepth := 20) [*]; done)), by (first | assumption | (simp (maxDischargeDepth := 20) [*]; done)), by (first | assumption | (simp (maxDischargeDepth := 20) [*]; done))⟩, by assumption⟩
          case measure => simp [intOf]; omega
      · obtain rfl : j = k := by omega
        go_wp2
        go_ret
        exact ⟨rfl, hbel⟩

theorem sClearKeys_any (r c : Int) (d : Bool) (x : Int) (w : World) : Calls Try.prog 33 #[.agg #[.int .i64 r, .int .i64 c, .bool d], .int .i64 x] w fun e w' => e = .returned (.int .i64 (clrI r c d x)) ∧ Below w.heap.size w w' := by
  have H0 := sIsReading_any r c d x
  cases h : isRd r c d x with
  | false =>
    rw [h] at H0
    rw [clrI_no h]
    have H0 := hid H0
    have Hk := hid (sKeyCount_any r c d)
    clear h
    by_cases hk : 0 < kc r c
    all_goals
      generalize kc r c = kk at *
      go_enter Try.func33, Try.ntmps33
      go_wp2_with fail
      refine wp_loop_rounds 1 ?_; rw [rounds_succ]
      go_wp2_with (first | (go_at_call 27; (with_reducible refine (H0.out _).mono ?_); rintro e w1 ⟨rfl, hb1⟩; obtain ⟨hc1, hf1, hz1, hd1⟩ := bcell hb1; (try simp at hz1); replace hb1 := Below.via (B := w.heap.size) (a := w) (by (first | (go_grown; done) | (refine below_drewN ?_ _; go_grown; done) | (refine Below.drew (below_drewN ?_ _); go_grown; done))) hb1 (by go_size); (try have hy1 : w.heap.size < w1.heap.size := by omega); (try have hyy1 : w.heap.size + 1 < w1.heap.size := by omega)) | (go_at_call 18; (with_reducible refine (Hk.out _).mono ?_); rintro e w2 ⟨rfl, hb2⟩; obtain ⟨hc2, hf2, hz2, hd2⟩ := bcell hb2; (try simp at hz2); replace hb2 := Below.via (B := w.heap.size) (a := w) (by (first | (go_grown; done) | (refine below_drewN ?_ _; go_grown; done) | (refine Below.drew (below_drewN ?_ _); go_grown; done))) hb2 (by go_size); (try have hy2 : w.heap.size < w2.heap.size := by omega); (try have hyy2 : w.heap.size + 1 < w2.heap.size := by omega)))
      go_ret
      exact ⟨rfl, by (first | (go_grown; done) | (refine below_drewN ?_ _; go_grown; done) | (refine Below.drew (below_drewN ?_ _); go_grown; done))⟩
  | true =>
    rw [h] at H0
    obtain ⟨R, C, k, X, rfl, rfl, rfl, hm, hX, hr⟩ := rd_of h
    rw [clrI_mx hm hX hr]
    have Hk := hid (sKeyCount_yes hm d)
    have H0 := hid H0
    have k24 := hm.k24
    have Hm := hid hm; clear hm
    have HX := hid hX; clear hX
    have HR := hid hr; clear hr h
    go_enter Try.func33, Try.ntmps33
    go_wp2_with fail
    go_loopw [5, 6] (fun o i wr => ∃ j : Nat, j ≤ k ∧ i = .int .i64 j ∧ o = .int .i64 (MM.clr d R C X j : Nat) ∧ BoxM wr w.heap.size R C d ∧ Below w.heap.size w wr) (fun _ i _ => k - (intOf i).toNat)
    case atStart => exact ⟨0, Nat.zero_le _, rfl, rfl, BoxM.new w R C d _, by (first | (go_grown; done) | (refine below_drewN ?_ _; go_grown; done) | (refine Below.drew (below_drewN ?_ _); go_grown; done))⟩
    case round =>
      obtain ⟨j, hj, rfl, rfl, hbox, hbel⟩ := hrel
      obtain ⟨m0, m1, m2⟩ := hbox
      by_cases hjk : j < k
      · obtain ⟨e1, _, _, e4⟩ := key_facts (d := d) Hm.out HX.out hjk
        have e5 := or_key (d := d) Hm.out HX.out hjk
        have Ha := hid (sAlt_at Hm.out HX.out HR.out hjk)
        have hst := clr_step d R C X j
        cases hbit : X.testBit j <;> cases hal : MM.alt d R C X j
        all_goals
          have hst := hst _ _ hbit hal
          rw [hal] at Ha
          rw [hbit] at e1
          simp only [if_true, Bool.false_eq_true, if_false] at e1
          have HS := hid hst; clear hst
          have HB := hid hbit; clear hbit
          have HA := hid hal; clear hal
          generalize altV R C d X j = av at Ha
          generalize MM.clr d R C X j = o at e5 HS
          go_wp2_with (first | (go_at_call 32; (with_reducible refine (Ha.out _).mono ?_); rintro e w4 ⟨rfl, hb4⟩; obtain ⟨hc4, hf4, hz4, hd4⟩ := bcell hb4; replace hb4 := Below.step (by first | assumption | exact Below.drew (by assumption)) hb4) | (go_at_call 27; (with_reducible refine (H0.out _).mono ?_); rintro e w1 ⟨rfl, hb1⟩; obtain ⟨hc1, hf1, hz1, hd1⟩ := bcell hb1; replace hb1 := Below.step (by first | assumption | exact Below.drew (by assumption)) hb1) | (go_at_call 18; (with_reducible refine (Hk.out _).mono ?_); rintro e w2 ⟨rfl, hb2⟩; obtain ⟨hc2, hf2, hz2, hd2⟩ := bcell hb2; replace hb2 := Below.step (by first | assumption | exact Below.drew (by assumption)) hb2))
          go_roundw
          case rel => exact ⟨j + 1, by omega, by go_num, by rw [HS.out]; rfl, ⟨by (first | assumption | (simp (maxDischargeDepth := 20) [*]; done)), by (first | assumption | (simp (maxDischargeDepth := 20) [*]; done)), by (first | assumption | (simp (maxDischargeDepth := 20) [*]; done))⟩, by assumption⟩
          case measure => simp [intOf]; omega
      · obtain rfl : j = k := by omega
        go_wp2_with (go_at_call 18; (with_reducible refine (Hk.out _).mono ?_); rintro e w2 ⟨rfl, hb2⟩; obtain ⟨hc2, hf2, hz2, hd2⟩ := bcell hb2; replace hb2 := Below.step (by first | assumption | exact Below.drew (by assumption)) hb2)
        go_ret
        exact ⟨rfl, by assumption⟩
end Go.Proofs.Ytmhpepicmnjmgaa
