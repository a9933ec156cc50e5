/- Ghosts, readings and alternatives, each by its contract in both programs. Conditions: none. -/
import Derived.Test.YtmhpepicmnjmgaaMatE
namespace Go.Proofs.Ytmhpepicmnjmgaa
open Go.RowKit
set_option linter.unusedVariables false

/-- The ghosts, as an int. -/
def ghI (r c : Int) (d : Bool) (x : Int) : Int := if isMk r c x then ((MM.anot (MM.rd d r.toNat c.toNat x.toNat) x.toNat : Nat) : Int) else 0
theorem ghI_mk {R C k X : Nat} (h : Mx R C k) (hX : X < 2 ^ k) (d : Bool) : ghI R C d X = ((MM.anot (MM.rd d R C X) X : Nat) : Int) := by
  unfold ghI; rw [mk_yes h hX]; simp
theorem rd24 {R C k X : Nat} (h : Mx R C k) (hX : X < 2 ^ k) (d : Bool) : MM.rd d R C X < 2 ^ k := by
  have h1 := hX
  rw [h.k] at h1 ⊢
  exact MM.rd_lt h1
/-- Is it a mask that is read as it is? -/
def isRd (r c : Int) (d : Bool) (x : Int) : Bool := isMk r c x && decide (MM.rd d r.toNat c.toNat x.toNat = x.toNat)
theorem isRd_mk {R C k X : Nat} (h : Mx R C k) (hX : X < 2 ^ k) (d : Bool) : isRd R C d X = decide (MM.rd d R C X = X) := by
  unfold isRd; rw [mk_yes h hX]; simp
theorem rd_of {r c x : Int} {d : Bool} (h : isRd r c d x = true) : ∃ R C k X : Nat, r = R ∧ c = C ∧ x = X ∧ Mx R C k ∧ X < 2 ^ k ∧ MM.rd d R C X = X := by
  have h0 := h
  unfold isRd at h
  rw [Bool.and_eq_true] at h
  obtain ⟨R, C, k, X, rfl, rfl, rfl, hm, hX⟩ := mk_of h.1
  rw [isRd_mk hm hX, decide_eq_true_eq] at h0
  exact ⟨R, C, k, X, rfl, rfl, rfl, hm, hX, h0⟩
theorem rd_yes {R C k X : Nat} {d : Bool} (h : Mx R C k) (hX : X < 2 ^ k) (hr : MM.rd d R C X = X) : isRd R C d X = true := by
  rw [isRd_mk h hX, hr]; simp

section
variable (r c : Int) (d : Bool) (x : Int) (w : World)
theorem sGhostsOf_any : Calls Try.prog 30 #[.agg #[.int .i64 r, .int .i64 c, .bool d], .int .i64 x] w fun e w' => e = .returned (.tuple #[.int .i64 (ghI r c d x), .bool (isMk r c x)]) ∧ Below w.heap.size w w' := by
  have H0 := sReadMatrix_any r c d x
  cases h : isMk r c x with
  | false =>
    rw [h] at H0
    have hr : ghI r c d x = 0 := by unfold ghI; rw [h]; rfl
    rw [hr]
    have H0 := hid H0
    clear h hr
    go_enter Try.func30, Try.ntmps30
    go_wp2_with (go_at_call 29; (with_reducible refine (H0.out _).mono ?_); rintro e w1 ⟨rfl, hb1⟩; obtain ⟨hc1, hf1, hz1, hd1⟩ := bcell hb1; (try simp at hz1); replace hb1 := Below.via (B := w.heap.size) (a := w) (by (first | (go_grown; done) | (refine below_drewN ?_ _; go_grown; done) | (refine Below.drew (below_drewN ?_ _); go_grown; done))) hb1 (by go_size); (try have hy1 : w.heap.size < w1.heap.size := by omega); (try have hyy1 : w.heap.size + 1 < w1.heap.size := by omega))
    go_ret2
    exact ⟨rfl, by (first | (go_grown; done) | (refine below_drewN ?_ _; go_grown; done) | (refine Below.drew (below_drewN ?_ _); go_grown; done))⟩
  | true =>
    rw [h] at H0
    obtain ⟨R, C, k, X, rfl, rfl, rfl, hm, hX⟩ := mk_of h
    rw [ghI_mk hm hX]
    rw [rdI_mk hm hX] at H0
    have hl := x24 hm (rd24 hm hX d)
    have hx := x24 hm hX
    have e := i64_anot_nat (MM.rd d R C X) X (by omega) (by omega)
    have H0 := hid H0
    clear h hm hX
    unfold MM.anot
    generalize MM.rd d R C X = Y at *
    generalize Y ^^^ (Y &&& X) = G at *
    go_enter Try.func30, Try.ntmps30
    go_wp2_with (go_at_call 29; (with_reducible refine (H0.out _).mono ?_); rintro e w1 ⟨rfl, hb1⟩; obtain ⟨hc1, hf1, hz1, hd1⟩ := bcell hb1; (try simp at hz1); replace hb1 := Below.via (B := w.heap.size) (a := w) (by (first | (go_grown; done) | (refine below_drewN ?_ _; go_grown; done) | (refine Below.drew (below_drewN ?_ _); go_grown; done))) hb1 (by go_size); (try have hy1 : w.heap.size < w1.heap.size := by omega); (try have hyy1 : w.heap.size + 1 < w1.heap.size := by omega))
    go_ret2
    exact ⟨rfl, by (first | (go_grown; done) | (refine below_drewN ?_ _; go_grown; done) | (refine Below.drew (below_drewN ?_ _); go_grown; done))⟩
theorem iGhostsOf_any : Calls Try.prog 31 #[.agg #[.int .i64 r, .int .i64 c, .bool d], .int .i64 x] w fun e w' => e = .returned (.tuple #[.int .i64 (ghI r c d x), .bool (isMk r c x)]) ∧ Below w.heap.size w w' := by
  have H0 := iIsMask_any r c d x
  cases h : isMk r c x with
  | false =>
    rw [h] at H0
    have hr : ghI r c d x = 0 := by unfold ghI; rw [h]; rfl
    rw [hr]
    have H0 := hid H0
    clear h hr
    go_enter Try.func31, Try.ntmps31
    go_wp2_with (go_at_call 21; (with_reducible refine (H0.out _).mono ?_); rintro e w1 ⟨rfl, hb1⟩; obtain ⟨hc1, hf1, hz1, hd1⟩ := bcell hb1; (try simp at hz1); replace hb1 := Below.via (B := w.heap.size) (a := w) (by (first | (go_grown; done) | (refine below_drewN ?_ _; go_grown; done) | (refine Below.drew (below_drewN ?_ _); go_grown; done))) hb1 (by go_size); (try have hy1 : w.heap.size < w1.heap.size := by omega); (try have hyy1 : w.heap.size + 1 < w1.heap.size := by omega))
    go_ret2
    exact ⟨rfl, by (first | (go_grown; done) | (refine below_drewN ?_ _; go_grown; done) | (refine Below.drew (below_drewN ?_ _); go_grown; done))⟩
  | true =>
    rw [h] at H0
    obtain ⟨R, C, k, X, rfl, rfl, rfl, hm, hX⟩ := mk_of h
    rw [ghI_mk hm hX]
    have H1 := iread_any hm d X hX
    have hl := x24 hm (rd24 hm hX d)
    have hx := x24 hm hX
    have e := i64_anot_nat (MM.rd d R C X) X (by omega) (by omega)
    have H0 := hid H0
    have H1 := hid H1
    clear h hm hX
    unfold MM.anot
    generalize MM.rd d R C X = Y at *
    generalize Y ^^^ (Y &&& X) = G at *
    go_enter Try.func31, Try.ntmps31
    go_wp2_with (first | (go_at_call 21; (with_reducible refine (H0.out _).mono ?_); rintro e w1 ⟨rfl, hb1⟩; obtain ⟨hc1, hf1, hz1, hd1⟩ := bcell hb1; (try simp at hz1); replace hb1 := Below.via (B := w.heap.size) (a := w) (by (first | (go_grown; done) | (refine below_drewN ?_ _; go_grown; done) | (refine Below.drew (below_drewN ?_ _); go_grown; done))) hb1 (by go_size); (try have hy1 : w.heap.size < w1.heap.size := by omega); (try have hyy1 : w.heap.size + 1 < w1.heap.size := by omega)) | (go_at_call 41; (with_reducible refine (H1.out _).mono ?_); rintro e w2 ⟨rfl, hb2⟩; obtain ⟨hc2, hf2, hz2, hd2⟩ := bcell hb2; (try simp at hz2); replace hb2 := Below.via (B := w.heap.size) (a := w) (by (first | (go_grown; done) | (refine below_drewN ?_ _; go_grown; done) | (refine Below.drew (below_drewN ?_ _); go_grown; done))) hb2 (by go_size); (try have hy2 : w.heap.size < w2.heap.size := by omega); (try have hyy2 : w.heap.size + 1 < w2.heap.size := by omega)))
    go_ret2
    exact ⟨rfl, by (first | (go_grown; done) | (refine below_drewN ?_ _; go_grown; done) | (refine Below.drew (below_drewN ?_ _); go_grown; done))⟩

theorem sIsReading_any : Calls Try.prog 27 #[.agg #[.int .i64 r, .int .i64 c, .bool d], .int .i64 x] w fun e w' => e = .returned (.bool (isRd r c d x)) ∧ Below w.heap.size w w' := by
  have H0 := sIsMask_any r c d x
  cases h : isMk r c x with
  | false =>
    rw [h] at H0
    have hr : isRd r c d x = false := by unfold isRd; rw [h]; rfl
    rw [hr]
    have H0 := hid H0
    clear h hr
    go_enter Try.func27, Try.ntmps27
    go_wp2_with (go_at_call 20; (with_reducible refine (H0.out _).mono ?_); rintro e w1 ⟨rfl, hb1⟩; obtain ⟨hc1, hf1, hz1, hd1⟩ := bcell hb1; (try simp at hz1); replace hb1 := Below.via (B := w.heap.size) (a := w) (by (first | (go_grown; done) | (refine below_drewN ?_ _; go_grown; done) | (refine Below.drew (below_drewN ?_ _); go_grown; done))) hb1 (by go_size); (try have hy1 : w.heap.size < w1.heap.size := by omega); (try have hyy1 : w.heap.size + 1 < w1.heap.size := by omega))
    go_ret
    exact ⟨rfl, by (first | (go_grown; done) | (refine below_drewN ?_ _; go_grown; done) | (refine Below.drew (below_drewN ?_ _); go_grown; done))⟩
  | true =>
    rw [h] at H0
    obtain ⟨R, C, k, X, rfl, rfl, rfl, hm, hX⟩ := mk_of h
    rw [isRd_mk hm hX]
    have H1 := sread_any hm d X hX
    have H0 := hid H0
    have H1 := hid H1
    clear h hm hX
    generalize MM.rd d R C X = Y at *
    by_cases hY : Y = X
    · subst hY
      go_enter Try.func27, Try.ntmps27
      go_wp2_with (first | (go_at_call 20; (with_reducible refine (H0.out _).mono ?_); rintro e w1 ⟨rfl, hb1⟩; obtain ⟨hc1, hf1, hz1, hd1⟩ := bcell hb1; (try simp at hz1); replace hb1 := Below.via (B := w.heap.size) (a := w) (by (first | (go_grown; done) | (refine below_drewN ?_ _; go_grown; done) | (refine Below.drew (below_drewN ?_ _); go_grown; done))) hb1 (by go_size); (try have hy1 : w.heap.size < w1.heap.size := by omega); (try have hyy1 : w.heap.size + 1 < w1.heap.size := by omega)) | (go_at_call 42; (with_reducible refine (H1.out _).mono ?_); rintro e w2 ⟨rfl, hb2⟩; obtain ⟨hc2, hf2, hz2, hd2⟩ := bcell hb2; (try simp at hz2); replace hb2 := Below.via (B := w.heap.size) (a := w) (by (first | (go_grown; done) | (refine below_drewN ?_ _; go_grown; done) | (refine Below.drew (below_drewN ?_ _); go_grown; done))) hb2 (by go_size); (try have hy2 : w.heap.size < w2.heap.size := by omega); (try have hyy2 : w.heap.size + 1 < w2.heap.size := by omega)))
      go_ret
      exact ⟨ret_bool (by simp), by (first | (go_grown; done) | (refine below_drewN ?_ _; go_grown; done) | (refine Below.drew (below_drewN ?_ _); go_grown; done))⟩
    · have e0 : ((Y : Int) == (X : Int)) = false := by simp; omega
      have HY := hid hY; clear hY
      go_enter Try.func27, Try.ntmps27
      go_wp2_with (first | (go_at_call 20; (with_reducible refine (H0.out _).mono ?_); rintro e w1 ⟨rfl, hb1⟩; obtain ⟨hc1, hf1, hz1, hd1⟩ := bcell hb1; (try simp at hz1); replace hb1 := Below.via (B := w.heap.size) (a := w) (by (first | (go_grown; done) | (refine below_drewN ?_ _; go_grown; done) | (refine Below.drew (below_drewN ?_ _); go_grown; done))) hb1 (by go_size); (try have hy1 : w.heap.size < w1.heap.size := by omega); (try have hyy1 : w.heap.size + 1 < w1.heap.size := by omega)) | (go_at_call 42; (with_reducible refine (H1.out _).mono ?_); rintro e w2 ⟨rfl, hb2⟩; obtain ⟨hc2, hf2, hz2, hd2⟩ := bcell hb2; (try simp at hz2); replace hb2 := Below.via (B := w.heap.size) (a := w) (by (first | (go_grown; done) | (refine below_drewN ?_ _; go_grown; done) | (refine Below.drew (below_drewN ?_ _); go_grown; done))) hb2 (by go_size); (try have hy2 : w.heap.size < w2.heap.size := by omega); (try have hyy2 : w.heap.size + 1 < w2.heap.size := by omega)))
      go_ret
      exact ⟨ret_bool (by simp [HY.out]), by (first | (go_grown; done) | (refine below_drewN ?_ _; go_grown; done) | (refine Below.drew (below_drewN ?_ _); go_grown; done))⟩

theorem iIsReading_any : Calls Try.prog 28 #[.agg #[.int .i64 r, .int .i64 c, .bool d], .int .i64 x] w fun e w' => e = .returned (.bool (isRd r c d x)) ∧ Below w.heap.size w w' := by
  have H0 := iIsMask_any r c d x
  cases h : isMk r c x with
  | false =>
    rw [h] at H0
    have hr : isRd r c d x = false := by unfold isRd; rw [h]; rfl
    rw [hr]
    have H0 := hid H0
    clear h hr
    go_enter Try.func28, Try.ntmps28
    go_wp2_with (go_at_call 21; (with_reducible refine (H0.out _).mono ?_); rintro e w1 ⟨rfl, hb1⟩; obtain ⟨hc1, hf1, hz1, hd1⟩ := bcell hb1; (try simp at hz1); replace hb1 := Below.via (B := w.heap.size) (a := w) (by (first | (go_grown; done) | (refine below_drewN ?_ _; go_grown; done) | (refine Below.drew (below_drewN ?_ _); go_grown; done))) hb1 (by go_size); (try have hy1 : w.heap.size < w1.heap.size := by omega); (try have hyy1 : w.heap.size + 1 < w1.heap.size := by omega))
    go_ret
    exact ⟨rfl, by (first | (go_grown; done) | (refine below_drewN ?_ _; go_grown; done) | (refine Below.drew (below_drewN ?_ _); go_grown; done))⟩
  | true =>
    rw [h] at H0
    obtain ⟨R, C, k, X, rfl, rfl, rfl, hm, hX⟩ := mk_of h
    rw [isRd_mk hm hX]
    have H1 := iread_any hm d X hX
    have H0 := hid H0
    have H1 := hid H1
    clear h hm hX
    generalize MM.rd d R C X = Y at *
    by_cases hY : Y = X
    · subst hY
      go_enter Try.func28, Try.ntmps28
      go_wp2_with (first | (go_at_call 21; (with_reducible refine (H0.out _).mono ?_); rintro e w1 ⟨rfl, hb1⟩; obtain ⟨hc1, hf1, hz1, hd1⟩ := bcell hb1; (try simp at hz1); replace hb1 := Below.via (B := w.heap.size) (a := w) (by (first | (go_grown; done) | (refine below_drewN ?_ _; go_grown; done) | (refine Below.drew (below_drewN ?_ _); go_grown; done))) hb1 (by go_size); (try have hy1 : w.heap.size < w1.heap.size := by omega); (try have hyy1 : w.heap.size + 1 < w1.heap.size := by omega)) | (go_at_call 41; (with_reducible refine (H1.out _).mono ?_); rintro e w2 ⟨rfl, hb2⟩; obtain ⟨hc2, hf2, hz2, hd2⟩ := bcell hb2; (try simp at hz2); replace hb2 := Below.via (B := w.heap.size) (a := w) (by (first | (go_grown; done) | (refine below_drewN ?_ _; go_grown; done) | (refine Below.drew (below_drewN ?_ _); go_grown; done))) hb2 (by go_size); (try have hy2 : w.heap.size < w2.heap.size := by omega); (try have hyy2 : w.heap.size + 1 < w2.heap.size := by omega)))
      go_ret
      exact ⟨ret_bool (by simp), by (first | (go_grown; done) | (refine below_drewN ?_ _; go_grown; done) | (refine Below.drew (below_drewN ?_ _); go_grown; done))⟩
    · have e0 : ((Y : Int) == (X : Int)) = false := by simp; omega
      have HY := hid hY; clear hY
      go_enter Try.func28, Try.ntmps28
      go_wp2_with (first | (go_at_call 21; (with_reducible refine (H0.out _).mono ?_); rintro e w1 ⟨rfl, hb1⟩; obtain ⟨hc1, hf1, hz1, hd1⟩ := bcell hb1; (try simp at hz1); replace hb1 := Below.via (B := w.heap.size) (a := w) (by (first | (go_grown; done) | (refine below_drewN ?_ _; go_grown; done) | (refine Below.drew (below_drewN ?_ _); go_grown; done))) hb1 (by go_size); (try have hy1 : w.heap.size < w1.heap.size := by omega); (try have hyy1 : w.heap.size + 1 < w1.heap.size := by omega)) | (go_at_call 41; (with_reducible refine (H1.out _).mono ?_); rintro e w2 ⟨rfl, hb2⟩; obtain ⟨hc2, hf2, hz2, hd2⟩ := bcell hb2; (try simp at hz2); replace hb2 := Below.via (B := w.heap.size) (a := w) (by (first | (go_grown; done) | (refine below_drewN ?_ _; go_grown; done) | (refine Below.drew (below_drewN ?_ _); go_grown; done))) hb2 (by go_size); (try have hy2 : w.heap.size < w2.heap.size := by omega); (try have hyy2 : w.heap.size + 1 < w2.heap.size := by omega)))
      go_ret
      exact ⟨ret_bool (by simp [HY.out]), by (first | (go_grown; done) | (refine below_drewN ?_ _; go_grown; done) | (refine Below.drew (below_drewN ?_ _); go_grown; done))⟩
end
end Go.Proofs.Ytmhpepicmnjmgaa
