/- Tap and hold, by contract in both programs, and the walks of the laws on single actions. Conditions: none. -/
import Derived.Test.YtkfpnckhfdmjfaaActA
namespace Go.Proofs.Ytkfpnckhfdmjfaa
open Go.RowKit
set_option linter.unusedVariables false

def isTH (k c m n : Int) : Bool := isAct k c m n && (decide (k = 6) || decide (k = 7))
theorem isTH_no {k c m n : Int} (h : isAct k c m n = false) : isTH k c m n = false := by unfold isTH; rw [h]; rfl
theorem isTH_yes {k c m n : Int} (h : isAct k c m n = true) : isTH k c m n = (decide (k = 6) || decide (k = 7)) := by unfold isTH; rw [h]; rfl
theorem toAction_any (k c m n : Int) (w : World) : Calls Try.prog 24 #[.agg #[.int .i64 k, .int .i64 c, .int .i64 m, .int .i64 n]] w fun e w' => e = .returned (.agg #[.int .i64 k, .int .i64 c, .int .i64 m, .int .i64 n]) ∧ Below w.heap.size w w' := by
  go_enter Try.func24, Try.ntmps24
  go_wp2
  go_returns
  exact ⟨rfl, by (first | (go_grown; done) | (refine below_drewN ?_ _; go_grown; done) | (refine Below.drew (below_drewN ?_ _); go_grown; done))⟩
theorem eqAction_same (k c m n : Int) (w : World) : Calls Try.prog 39 #[.agg #[.int .i64 k, .int .i64 c, .int .i64 m, .int .i64 n], .agg #[.int .i64 k, .int .i64 c, .int .i64 m, .int .i64 n]] w fun e w' => e = .returned (.bool true) ∧ Below w.heap.size w w' := by
  go_enter Try.func39, Try.ntmps39
  go_wp2
  go_ret
  exact ⟨rfl, by (first | (go_grown; done) | (refine below_drewN ?_ _; go_grown; done) | (refine Below.drew (below_drewN ?_ _); go_grown; done))⟩
def tapI (k c m n : Int) : Int × Int × Int × Int := if isTH k c m n then (2, c, 0, 0) else (k, c, m, n)
def holdI (k c m n : Int) : Int × Int × Int × Int := if isTH k c m n then (if k = 6 then (2, 0, m, 0) else (3, 0, 0, n)) else (k, c, m, n)
def actV (a : Int × Int × Int × Int) : Value := .agg #[.int .i64 a.1, .int .i64 a.2.1, .int .i64 a.2.2.1, .int .i64 a.2.2.2]

theorem iIsTapHold_any (k c m n : Int) (w : World) : Calls Try.prog 32 #[.agg #[.int .i64 k, .int .i64 c, .int .i64 m, .int .i64 n]] w fun e w' => e = .returned (.bool (isTH k c m n)) ∧ Below w.heap.size w w' := by
  have H0 := iIsAction_any k c m n
  cases h : isAct k c m n with
  | false =>
    rw [isTH_no h]
    rw [h] at H0
    have H0 := hid H0
    clear h
    go_enter Try.func32, Try.ntmps32
    go_wp2_with (go_at_call 25; (with_reducible refine (H0.out _).mono ?_); rintro e w1 ⟨rfl, hb1⟩; obtain ⟨hc1, hf1, hz1, hd1⟩ := bcell hb1; (try simp at hz1); replace hb1 := Below.via (B := w.heap.size) (a := w) (by (first | (go_grown; done) | (refine below_drewN ?_ _; go_grown; done) | (refine Below.drew (below_drewN ?_ _); go_grown; done))) hb1 (by go_size); (try have hy1 : w.heap.size < w1.heap.size := by omega); (try have hyy1 : w.heap.size + 1 < w1.heap.size := by omega))
    go_ret
    exact ⟨rfl, by (first | (go_grown; done) | (refine below_drewN ?_ _; go_grown; done) | (refine Below.drew (below_drewN ?_ _); go_grown; done))⟩
  | true =>
    rw [isTH_yes h]
    rw [h] at H0
    have H0 := hid H0
    clear h
    rcases (show k < 6 ∨ k = 6 ∨ k = 7 ∨ 7 < k by omega) with h | rfl | rfl | h
    all_goals
      go_enter Try.func32, Try.ntmps32
      go_wp2_with (go_at_call 25; (with_reducible refine (H0.out _).mono ?_); rintro e w1 ⟨rfl, hb1⟩; obtain ⟨hc1, hf1, hz1, hd1⟩ := bcell hb1; (try simp at hz1); replace hb1 := Below.via (B := w.heap.size) (a := w) (by (first | (go_grown; done) | (refine below_drewN ?_ _; go_grown; done) | (refine Below.drew (below_drewN ?_ _); go_grown; done))) hb1 (by go_size); (try have hy1 : w.heap.size < w1.heap.size := by omega); (try have hyy1 : w.heap.size + 1 < w1.heap.size := by omega))
      go_ret
      refine ⟨ret_bool ?_, by (first | (go_grown; done) | (refine below_drewN ?_ _; go_grown; done) | (refine Below.drew (below_drewN ?_ _); go_grown; done))⟩
      first | (simp; done) | (rw [Bool.eq_iff_iff]; simp; try omega)

theorem iTapOf_any (k c m n : Int) (w : World) : Calls Try.prog 38 #[.agg #[.int .i64 k, .int .i64 c, .int .i64 m, .int .i64 n]] w fun e w' => e = .returned (actV (tapI k c m n)) ∧ Below w.heap.size w w' := by
  have H0 := iIsTapHold_any k c m n
  cases h : isTH k c m n with
  | false =>
    have hv : tapI k c m n = (k, c, m, n) := by unfold tapI; rw [h]; rfl
    rw [hv]
    rw [h] at H0
    have H0 := hid H0
    clear h hv
    go_enter Try.func38, Try.ntmps38
    go_wp2_with (go_at_call 32; (with_reducible refine (H0.out _).mono ?_); rintro e w1 ⟨rfl, hb1⟩; obtain ⟨hc1, hf1, hz1, hd1⟩ := bcell hb1; (try simp at hz1); replace hb1 := Below.via (B := w.heap.size) (a := w) (by (first | (go_grown; done) | (refine below_drewN ?_ _; go_grown; done) | (refine Below.drew (below_drewN ?_ _); go_grown; done))) hb1 (by go_size); (try have hy1 : w.heap.size < w1.heap.size := by omega); (try have hyy1 : w.heap.size + 1 < w1.heap.size := by omega))
    refine bodyPost_ret (v := actV (k, c, m, n)) (by simp [results, Try.results38, go_sem, actV, hc1]) rfl ?_
    exact ⟨rfl, by (first | (go_grown; done) | (refine below_drewN ?_ _; go_grown; done) | (refine Below.drew (below_drewN ?_ _); go_grown; done))⟩
  | true =>
    have hv : tapI k c m n = (2, c, 0, 0) := by unfold tapI; rw [h]; rfl
    rw [hv]
    rw [h] at H0
    have H0 := hid H0
    clear h hv
    go_enter Try.func38, Try.ntmps38
    go_wp2_with (go_at_call 32; (with_reducible refine (H0.out _).mono ?_); rintro e w1 ⟨rfl, hb1⟩; obtain ⟨hc1, hf1, hz1, hd1⟩ := bcell hb1; (try simp at hz1); replace hb1 := Below.via (B := w.heap.size) (a := w) (by (first | (go_grown; done) | (refine below_drewN ?_ _; go_grown; done) | (refine Below.drew (below_drewN ?_ _); go_grown; done))) hb1 (by go_size); (try have hy1 : w.heap.size < w1.heap.size := by omega); (try have hyy1 : w.heap.size + 1 < w1.heap.size := by omega))
    refine bodyPost_ret (v := actV (2, c, 0, 0)) (by simp [results, Try.results38, go_sem, actV, hc1]) rfl ?_
    exact ⟨rfl, by (first | (go_grown; done) | (refine below_drewN ?_ _; go_grown; done) | (refine Below.drew (below_drewN ?_ _); go_grown; done))⟩

theorem iHoldOf_any (k c m n : Int) (w : World) : Calls Try.prog 41 #[.agg #[.int .i64 k, .int .i64 c, .int .i64 m, .int .i64 n]] w fun e w' => e = .returned (actV (holdI k c m n)) ∧ Below w.heap.size w w' := by
  have H0 := iIsTapHold_any k c m n
  cases h : isTH k c m n with
  | false =>
    have hv : holdI k c m n = (k, c, m, n) := by unfold holdI; rw [h]; rfl
    rw [hv]
    rw [h] at H0
    have H0 := hid H0
    clear h hv
    go_enter Try.func41, Try.ntmps41
    go_wp2_with (go_at_call 32; (with_reducible refine (H0.out _).mono ?_); rintro e w1 ⟨rfl, hb1⟩; obtain ⟨hc1, hf1, hz1, hd1⟩ := bcell hb1; (try simp at hz1); replace hb1 := Below.via (B := w.heap.size) (a := w) (by (first | (go_grown; done) | (refine below_drewN ?_ _; go_grown; done) | (refine Below.drew (below_drewN ?_ _); go_grown; done))) hb1 (by go_size); (try have hy1 : w.heap.size < w1.heap.size := by omega); (try have hyy1 : w.heap.size + 1 < w1.heap.size := by omega))
    refine bodyPost_ret (v := actV (k, c, m, n)) (by simp [results, Try.results41, go_sem, actV, hc1]) rfl ?_
    exact ⟨rfl, by (first | (go_grown; done) | (refine below_drewN ?_ _; go_grown; done) | (refine Below.drew (below_drewN ?_ _); go_grown; done))⟩
  | true =>
    have hk : k = 6 ∨ k = 7 := by
      unfold isTH at h
      rw [Bool.and_eq_true] at h
      simpa using h.2
    rcases hk with rfl | rfl
    · have hv : holdI 6 c m n = (2, 0, m, 0) := by unfold holdI; rw [h]; rfl
      rw [hv]
      rw [h] at H0
      have H0 := hid H0
      clear h hv
      go_enter Try.func41, Try.ntmps41
      go_wp2_with (go_at_call 32; (with_reducible refine (H0.out _).mono ?_); rintro e w1 ⟨rfl, hb1⟩; obtain ⟨hc1, hf1, hz1, hd1⟩ := bcell hb1; (try simp at hz1); replace hb1 := Below.via (B := w.heap.size) (a := w) (by (first | (go_grown; done) | (refine below_drewN ?_ _; go_grown; done) | (refine Below.drew (below_drewN ?_ _); go_grown; done))) hb1 (by go_size); (try have hy1 : w.heap.size < w1.heap.size := by omega); (try have hyy1 : w.heap.size + 1 < w1.heap.size := by omega))
      refine bodyPost_ret (v := actV (2, 0, m, 0)) (by simp [results, Try.results41, go_sem, actV, hc1]) rfl ?_
      exact ⟨rfl, by (first | (go_grown; done) | (refine below_drewN ?_ _; go_grown; done) | (refine Below.drew (below_drewN ?_ _); go_grown; done))⟩
    · have hv : holdI 7 c m n = (3, 0, 0, n) := by unfold holdI; rw [h]; rfl
      rw [hv]
      rw [h] at H0
      have H0 := hid H0
      clear h hv
      go_enter Try.func41, Try.ntmps41
      go_wp2_with (go_at_call 32; (with_reducible refine (H0.out _).mono ?_); rintro e w1 ⟨rfl, hb1⟩; obtain ⟨hc1, hf1, hz1, hd1⟩ := bcell hb1; (try simp at hz1); replace hb1 := Below.via (B := w.heap.size) (a := w) (by (first | (go_grown; done) | (refine below_drewN ?_ _; go_grown; done) | (refine Below.drew (below_drewN ?_ _); go_grown; done))) hb1 (by go_size); (try have hy1 : w.heap.size < w1.heap.size := by omega); (try have hyy1 : w.heap.size + 1 < w1.heap.size := by omega))
      refine bodyPost_ret (v := actV (3, 0, 0, n)) (by simp [results, Try.results41, go_sem, actV, hc1]) rfl ?_
      exact ⟨rfl, by (first | (go_grown; done) | (refine below_drewN ?_ _; go_grown; done) | (refine Below.drew (below_drewN ?_ _); go_grown; done))⟩

theorem sIsTapHold_any (k c m n : Int) (w : World) : Calls Try.prog 31 #[.agg #[.int .i64 k, .int .i64 c, .int .i64 m, .int .i64 n]] w fun e w' => e = .returned (.bool (isTH k c m n)) ∧ Below w.heap.size w w' := by
  have H0 := sIsAction_any k c m n
  cases h : isAct k c m n with
  | false =>
    rw [isTH_no h]
    rw [h] at H0
    have H0 := hid H0
    clear h
    go_enter Try.func31, Try.ntmps31
    go_wp2_with (go_at_call 23; (with_reducible refine (H0.out _).mono ?_); rintro e w1 ⟨rfl, hb1⟩; obtain ⟨hc1, hf1, hz1, hd1⟩ := bcell hb1; (try simp at hz1); replace hb1 := Below.via (B := w.heap.size) (a := w) (by (first | (go_grown; done) | (refine below_drewN ?_ _; go_grown; done) | (refine Below.drew (below_drewN ?_ _); go_grown; done))) hb1 (by go_size); (try have hy1 : w.heap.size < w1.heap.size := by omega); (try have hyy1 : w.heap.size + 1 < w1.heap.size := by omega))
    go_ret
    exact ⟨rfl, by (first | (go_grown; done) | (refine below_drewN ?_ _; go_grown; done) | (refine Below.drew (below_drewN ?_ _); go_grown; done))⟩
  | true =>
    rw [isTH_yes h]
    rw [h] at H0
    have H0 := hid H0
    clear h
    rcases (show k < 6 ∨ k = 6 ∨ k = 7 ∨ 7 < k by omega) with h | rfl | rfl | h
    all_goals
      go_enter Try.func31, Try.ntmps31
      go_wp2_with (go_at_call 23; (with_reducible refine (H0.out _).mono ?_); rintro e w1 ⟨rfl, hb1⟩; obtain ⟨hc1, hf1, hz1, hd1⟩ := bcell hb1; (try simp at hz1); replace hb1 := Below.via (B := w.heap.size) (a := w) (by (first | (go_grown; done) | (refine below_drewN ?_ _; go_grown; done) | (refine Below.drew (below_drewN ?_ _); go_grown; done))) hb1 (by go_size); (try have hy1 : w.heap.size < w1.heap.size := by omega); (try have hyy1 : w.heap.size + 1 < w1.heap.size := by omega))
      go_ret
      refine ⟨ret_bool ?_, by (first | (go_grown; done) | (refine below_drewN ?_ _; go_grown; done) | (refine Below.drew (below_drewN ?_ _); go_grown; done))⟩
      first | (simp; done) | (rw [Bool.eq_iff_iff]; simp; try omega)

theorem sTapOf_any (k c m n : Int) (w : World) : Calls Try.prog 37 #[.agg #[.int .i64 k, .int .i64 c, .int .i64 m, .int .i64 n]] w fun e w' => e = .returned (actV (tapI k c m n)) ∧ Below w.heap.size w w' := by
  have H0 := sIsTapHold_any k c m n
  cases h : isTH k c m n with
  | false =>
    have hv : tapI k c m n = (k, c, m, n) := by unfold tapI; rw [h]; rfl
    rw [hv]
    rw [h] at H0
    have H0 := hid H0
    clear h hv
    go_enter Try.func37, Try.ntmps37
    go_wp2_with (go_at_call 31; (with_reducible refine (H0.out _).mono ?_); rintro e w1 ⟨rfl, hb1⟩; obtain ⟨hc1, hf1, hz1, hd1⟩ := bcell hb1; (try simp at hz1); replace hb1 := Below.via (B := w.heap.size) (a := w) (by (first | (go_grown; done) | (refine below_drewN ?_ _; go_grown; done) | (refine Below.drew (below_drewN ?_ _); go_grown; done))) hb1 (by go_size); (try have hy1 : w.heap.size < w1.heap.size := by omega); (try have hyy1 : w.heap.size + 1 < w1.heap.size := by omega))
    refine bodyPost_ret (v := actV (k, c, m, n)) (by simp [results, Try.results37, go_sem, actV, hc1]) rfl ?_
    exact ⟨rfl, by (first | (go_grown; done) | (refine below_drewN ?_ _; go_grown; done) | (refine Below.drew (below_drewN ?_ _); go_grown; done))⟩
  | true =>
    have hv : tapI k c m n = (2, c, 0, 0) := by unfold tapI; rw [h]; rfl
    rw [hv]
    rw [h] at H0
    have H0 := hid H0
    clear h hv
    go_enter Try.func37, Try.ntmps37
    go_wp2_with (go_at_call 31; (with_reducible refine (H0.out _).mono ?_); rintro e w1 ⟨rfl, hb1⟩; obtain ⟨hc1, hf1, hz1, hd1⟩ := bcell hb1; (try simp at hz1); replace hb1 := Below.via (B := w.heap.size) (a := w) (by (first | (go_grown; done) | (refine below_drewN ?_ _; go_grown; done) | (refine Below.drew (below_drewN ?_ _); go_grown; done))) hb1 (by go_size); (try have hy1 : w.heap.size < w1.heap.size := by omega); (try have hyy1 : w.heap.size + 1 < w1.heap.size := by omega))
    refine bodyPost_ret (v := actV (2, c, 0, 0)) (by simp [results, Try.results37, go_sem, actV, hc1]) rfl ?_
    exact ⟨rfl, by (first | (go_grown; done) | (refine below_drewN ?_ _; go_grown; done) | (refine Below.drew (below_drewN ?_ _); go_grown; done))⟩

theorem sHoldOf_any (k c m n : Int) (w : World) : Calls Try.prog 40 #[.agg #[.int .i64 k, .int .i64 c, .int .i64 m, .int .i64 n]] w fun e w' => e = .returned (actV (holdI k c m n)) ∧ Below w.heap.size w w' := by
  have H0 := sIsTapHold_any k c m n
  cases h : isTH k c m n with
  | false =>
    have hv : holdI k c m n = (k, c, m, n) := by unfold holdI; rw [h]; rfl
    rw [hv]
    rw [h] at H0
    have H0 := hid H0
    clear h hv
    go_enter Try.func40, Try.ntmps40
    go_wp2_with (go_at_call 31; (with_reducible refine (H0.out _).mono ?_); rintro e w1 ⟨rfl, hb1⟩; obtain ⟨hc1, hf1, hz1, hd1⟩ := bcell hb1; (try simp at hz1); replace hb1 := Below.via (B := w.heap.size) (a := w) (by (first | (go_grown; done) | (refine below_drewN ?_ _; go_grown; done) | (refine Below.drew (below_drewN ?_ _); go_grown; done))) hb1 (by go_size); (try have hy1 : w.heap.size < w1.heap.size := by omega); (try have hyy1 : w.heap.size + 1 < w1.heap.size := by omega))
    refine bodyPost_ret (v := actV (k, c, m, n)) (by simp [results, Try.results40, go_sem, actV, hc1]) rfl ?_
    exact ⟨rfl, by (first | (go_grown; done) | (refine below_drewN ?_ _; go_grown; done) | (refine Below.drew (below_drewN ?_ _); go_grown; done))⟩
  | true =>
    have hk : k = 6 ∨ k = 7 := by
      unfold isTH at h
      rw [Bool.and_eq_true] at h
      simpa using h.2
    rcases hk with rfl | rfl
    · have hv : holdI 6 c m n = (2, 0, m, 0) := by unfold holdI; rw [h]; rfl
      rw [hv]
      rw [h] at H0
      have H0 := hid H0
      clear h hv
      go_enter Try.func40, Try.ntmps40
      go_wp2_with (go_at_call 31; (with_reducible refine (H0.out _).mono ?_); rintro e w1 ⟨rfl, hb1⟩; obtain ⟨hc1, hf1, hz1, hd1⟩ := bcell hb1; (try simp at hz1); replace hb1 := Below.via (B := w.heap.size) (a := w) (by (first | (go_grown; done) | (refine below_drewN ?_ _; go_grown; done) | (refine Below.drew (below_drewN ?_ _); go_grown; done))) hb1 (by go_size); (try have hy1 : w.heap.size < w1.heap.size := by omega); (try have hyy1 : w.heap.size + 1 < w1.heap.size := by omega))
      refine bodyPost_ret (v := actV (2, 0, m, 0)) (by simp [results, Try.results40, go_sem, actV, hc1]) rfl ?_
      exact ⟨rfl, by (first | (go_grown; done) | (refine below_drewN ?_ _; go_grown; done) | (refine Below.drew (below_drewN ?_ _); go_grown; done))⟩
    · have hv : holdI 7 c m n = (3, 0, 0, n) := by unfold holdI; rw [h]; rfl
      rw [hv]
      rw [h] at H0
      have H0 := hid H0
      clear h hv
      go_enter Try.func40, Try.ntmps40
      go_wp2_with (go_at_call 31; (with_reducible refine (H0.out _).mono ?_); rintro e w1 ⟨rfl, hb1⟩; obtain ⟨hc1, hf1, hz1, hd1⟩ := bcell hb1; (try simp at hz1); replace hb1 := Below.via (B := w.heap.size) (a := w) (by (first | (go_grown; done) | (refine below_drewN ?_ _; go_grown; done) | (refine Below.drew (below_drewN ?_ _); go_grown; done))) hb1 (by go_size); (try have hy1 : w.heap.size < w1.heap.size := by omega); (try have hyy1 : w.heap.size + 1 < w1.heap.size := by omega))
      refine bodyPost_ret (v := actV (3, 0, 0, n)) (by simp [results, Try.results40, go_sem, actV, hc1]) rfl ?_
      exact ⟨rfl, by (first | (go_grown; done) | (refine below_drewN ?_ _; go_grown; done) | (refine Below.drew (below_drewN ?_ _); go_grown; done))⟩

theorem walk_FnExactIsAction (k c m n : Int) (_ : (Lit.int .i64 k).wf = true) (_ : (Lit.int .i64 c).wf = true) (_ : (Lit.int .i64 m).wf = true) (_ : (Lit.int .i64 n).wf = true) (w : World) : Calls Try.prog 6 #[.agg #[.int .i64 k, .int .i64 c, .int .i64 m, .int .i64 n]] w fun e w' => e = .returned (.bool true) ∧ Below w.heap.size w w' := by
  have H0 := hid (toAction_any k c m n)
  have H1 := hid (sIsAction_any k c m n)
  have H2 := hid (iIsAction_any k c m n)
  go_enter Try.func6, Try.ntmps6
  go_wp2_with (first | (go_at_call 24; (with_reducible refine (H0.out _).mono ?_); rintro e w1 ⟨rfl, hb1⟩; obtain ⟨hc1, hf1, hz1, hd1⟩ := bcell hb1; (try simp at hz1); replace hb1 := Below.via (B := w.heap.size) (a := w) (by (first | (go_grown; done) | (refine below_drewN ?_ _; go_grown; done) | (refine Below.drew (below_drewN ?_ _); go_grown; done))) hb1 (by go_size); (try have hy1 : w.heap.size < w1.heap.size := by omega); (try have hyy1 : w.heap.size + 1 < w1.heap.size := by omega)) | (go_at_call 23; (with_reducible refine (H1.out _).mono ?_); rintro e w2 ⟨rfl, hb2⟩; obtain ⟨hc2, hf2, hz2, hd2⟩ := bcell hb2; (try simp at hz2); replace hb2 := Below.via (B := w.heap.size) (a := w) (by (first | (go_grown; done) | (refine below_drewN ?_ _; go_grown; done) | (refine Below.drew (below_drewN ?_ _); go_grown; done))) hb2 (by go_size); (try have hy2 : w.heap.size < w2.heap.size := by omega); (try have hyy2 : w.heap.size + 1 < w2.heap.size := by omega)) | (go_at_call 25; (with_reducible refine (H2.out _).mono ?_); rintro e w2 ⟨rfl, hb2⟩; obtain ⟨hc2, hf2, hz2, hd2⟩ := bcell hb2; (try simp at hz2); replace hb2 := Below.via (B := w.heap.size) (a := w) (by (first | (go_grown; done) | (refine below_drewN ?_ _; go_grown; done) | (refine Below.drew (below_drewN ?_ _); go_grown; done))) hb2 (by go_size); (try have hy2 : w.heap.size < w2.heap.size := by omega); (try have hyy2 : w.heap.size + 1 < w2.heap.size := by omega)))
  go_ret
  exact ⟨rfl, by go_grown⟩

theorem walk_FnExactIsTapHold (k c m n : Int) (_ : (Lit.int .i64 k).wf = true) (_ : (Lit.int .i64 c).wf = true) (_ : (Lit.int .i64 m).wf = true) (_ : (Lit.int .i64 n).wf = true) (w : World) : Calls Try.prog 8 #[.agg #[.int .i64 k, .int .i64 c, .int .i64 m, .int .i64 n]] w fun e w' => e = .returned (.bool true) ∧ Below w.heap.size w w' := by
  have H0 := hid (toAction_any k c m n)
  have H1 := hid (sIsTapHold_any k c m n)
  have H2 := hid (iIsTapHold_any k c m n)
  go_enter Try.func8, Try.ntmps8
  go_wp2_with (first | (go_at_call 24; (with_reducible refine (H0.out _).mono ?_); rintro e w1 ⟨rfl, hb1⟩; obtain ⟨hc1, hf1, hz1, hd1⟩ := bcell hb1; (try simp at hz1); replace hb1 := Below.via (B := w.heap.size) (a := w) (by (first | (go_grown; done) | (refine below_drewN ?_ _; go_grown; done) | (refine Below.drew (below_drewN ?_ _); go_grown; done))) hb1 (by go_size); (try have hy1 : w.heap.size < w1.heap.size := by omega); (try have hyy1 : w.heap.size + 1 < w1.heap.size := by omega)) | (go_at_call 31; (with_reducible refine (H1.out _).mono ?_); rintro e w2 ⟨rfl, hb2⟩; obtain ⟨hc2, hf2, hz2, hd2⟩ := bcell hb2; (try simp at hz2); replace hb2 := Below.via (B := w.heap.size) (a := w) (by (first | (go_grown; done) | (refine below_drewN ?_ _; go_grown; done) | (refine Below.drew (below_drewN ?_ _); go_grown; done))) hb2 (by go_size); (try have hy2 : w.heap.size < w2.heap.size := by omega); (try have hyy2 : w.heap.size + 1 < w2.heap.size := by omega)) | (go_at_call 32; (with_reducible refine (H2.out _).mono ?_); rintro e w2 ⟨rfl, hb2⟩; obtain ⟨hc2, hf2, hz2, hd2⟩ := bcell hb2; (try simp at hz2); replace hb2 := Below.via (B := w.heap.size) (a := w) (by (first | (go_grown; done) | (refine below_drewN ?_ _; go_grown; done) | (refine Below.drew (below_drewN ?_ _); go_grown; done))) hb2 (by go_size); (try have hy2 : w.heap.size < w2.heap.size := by omega); (try have hyy2 : w.heap.size + 1 < w2.heap.size := by omega)))
  go_ret
  exact ⟨rfl, by go_grown⟩

set_option maxHeartbeats 1000000 in
theorem walk_FnExactTapOf (k c m n : Int) (_ : (Lit.int .i64 k).wf = true) (_ : (Lit.int .i64 c).wf = true) (_ : (Lit.int .i64 m).wf = true) (_ : (Lit.int .i64 n).wf = true) (w : World) : Calls Try.prog 10 #[.agg #[.int .i64 k, .int .i64 c, .int .i64 m, .int .i64 n]] w fun e w' => e = .returned (.bool true) ∧ Below w.heap.size w w' := by
  have H0 := hid (toAction_any k c m n)
  have H1 := sTapOf_any k c m n
  have H2 := iTapOf_any k c m n
  generalize tapI k c m n = r at H1 H2
  obtain ⟨a, b, x, y⟩ := r
  simp only [actV] at H1 H2
  have H3 := hid (eqAction_same a b x y)
  have H1 := hid H1
  have H2 := hid H2
  go_enter Try.func10, Try.ntmps10
  go_wp2_with fail
  refine (H0.out _).mono ?_; rintro e w1 ⟨rfl, hb1⟩; obtain ⟨hc1, hf1, hz1, hd1⟩ := bcell hb1; (try simp at hz1); replace hb1 := Below.via (B := w.heap.size) (a := w) (by (first | (go_grown; done) | (refine below_drewN ?_ _; go_grown; done) | (refine Below.drew (below_drewN ?_ _); go_grown; done))) hb1 (by go_size); (try have hy1 : w.heap.size < w1.heap.size := by omega); (try have hyy1 : w.heap.size + 1 < w1.heap.size := by omega)
  go_wp2_with fail
  refine (H1.out _).mono ?_; rintro e w2 ⟨rfl, hb2⟩; obtain ⟨hc2, hf2, hz2, hd2⟩ := bcell hb2; (try simp at hz2); replace hb2 := Below.via (B := w.heap.size) (a := w) (by (first | (go_grown; done) | (refine below_drewN ?_ _; go_grown; done) | (refine Below.drew (below_drewN ?_ _); go_grown; done))) hb2 (by go_size); (try have hy2 : w.heap.size < w2.heap.size := by omega); (try have hyy2 : w.heap.size + 1 < w2.heap.size := by omega)
  go_wp2_with fail
  refine (H0.out _).mono ?_; rintro e w3 ⟨rfl, hb3⟩; obtain ⟨hc3, hf3, hz3, hd3⟩ := bcell hb3; (try simp at hz3); replace hb3 := Below.via (B := w.heap.size) (a := w) (by (first | (go_grown; done) | (refine below_drewN ?_ _; go_grown; done) | (refine Below.drew (below_drewN ?_ _); go_grown; done))) hb3 (by go_size); (try have hy3 : w.heap.size < w3.heap.size := by omega); (try have hyy3 : w.heap.size + 1 < w3.heap.size := by omega)
  have s23 : w2.heap.size < w3.heap.size := by omega
  go_wp2_with fail
  refine (H2.out _).mono ?_; rintro e w4 ⟨rfl, hb4⟩; obtain ⟨hc4, hf4, hz4, hd4⟩ := bcell hb4; (try simp at hz4); replace hb4 := Below.via (B := w.heap.size) (a := w) (by (first | (go_grown; done) | (refine below_drewN ?_ _; go_grown; done) | (refine Below.drew (below_drewN ?_ _); go_grown; done))) hb4 (by go_size); (try have hy4 : w.heap.size < w4.heap.size := by omega); (try have hyy4 : w.heap.size + 1 < w4.heap.size := by omega)
  have s24 : w2.heap.size < w4.heap.size := by omega
  go_wp2_with fail
  refine (H3.out _).mono ?_; rintro e w5 ⟨rfl, hb5⟩; obtain ⟨hc5, hf5, hz5, hd5⟩ := bcell hb5; (try simp at hz5); replace hb5 := Below.via (B := w.heap.size) (a := w) (by (first | (go_grown; done) | (refine below_drewN ?_ _; go_grown; done) | (refine Below.drew (below_drewN ?_ _); go_grown; done))) hb5 (by go_size); (try have hy5 : w.heap.size < w5.heap.size := by omega); (try have hyy5 : w.heap.size + 1 < w5.heap.size := by omega)
  go_wp2
  go_ret
  exact ⟨rfl, by go_grown⟩

set_option maxHeartbeats 1000000 in
theorem walk_FnExactHoldOf (k c m n : Int) (_ : (Lit.int .i64 k).wf = true) (_ : (Lit.int .i64 c).wf = true) (_ : (Lit.int .i64 m).wf = true) (_ : (Lit.int .i64 n).wf = true) (w : World) : Calls Try.prog 11 #[.agg #[.int .i64 k, .int .i64 c, .int .i64 m, .int .i64 n]] w fun e w' => e = .returned (.bool true) ∧ Below w.heap.size w w' := by
  have H0 := hid (toAction_any k c m n)
  have H1 := sHoldOf_any k c m n
  have H2 := iHoldOf_any k c m n
  generalize holdI k c m n = r at H1 H2
  obtain ⟨a, b, x, y⟩ := r
  simp only [actV] at H1 H2
  have H3 := hid (eqAction_same a b x y)
  have H1 := hid H1
  have H2 := hid H2
  go_enter Try.func11, Try.ntmps11
  go_wp2_with fail
  refine (H0.out _).mono ?_; rintro e w1 ⟨rfl, hb1⟩; obtain ⟨hc1, hf1, hz1, hd1⟩ := bcell hb1; (try simp at hz1); replace hb1 := Below.via (B := w.heap.size) (a := w) (by (first | (go_grown; done) | (refine below_drewN ?_ _; go_grown; done) | (refine Below.drew (below_drewN ?_ _); go_grown; done))) hb1 (by go_size); (try have hy1 : w.heap.size < w1.heap.size := by omega); (try have hyy1 : w.heap.size + 1 < w1.heap.size := by omega)
  go_wp2_with fail
  refine (H1.out _).mono ?_; rintro e w2 ⟨rfl, hb2⟩; obtain ⟨hc2, hf2, hz2, hd2⟩ := bcell hb2; (try simp at hz2); replace hb2 := Below.via (B := w.heap.size) (a := w) (by (first | (go_grown; done) | (refine below_drewN ?_ _; go_grown; done) | (refine Below.drew (below_drewN ?_ _); go_grown; done))) hb2 (by go_size); (try have hy2 : w.heap.size < w2.heap.size := by omega); (try have hyy2 : w.heap.size + 1 < w2.heap.size := by omega)
  go_wp2_with fail
  refine (H0.out _).mono ?_; rintro e w3 ⟨rfl, hb3⟩; obtain ⟨hc3, hf3, hz3, hd3⟩ := bcell hb3; (try simp at hz3); replace hb3 := Below.via (B := w.heap.size) (a := w) (by (first | (go_grown; done) | (refine below_drewN ?_ _; go_grown; done) | (refine Below.drew (below_drewN ?_ _); go_grown; done))) hb3 (by go_size); (try have hy3 : w.heap.size < w3.heap.size := by omega); (try have hyy3 : w.heap.size + 1 < w3.heap.size := by omega)
  have s23 : w2.heap.size < w3.heap.size := by omega
  go_wp2_with fail
  refine (H2.out _).mono ?_; rintro e w4 ⟨rfl, hb4⟩; obtain ⟨hc4, hf4, hz4, hd4⟩ := bcell hb4; (try simp at hz4); replace hb4 := Below.via (B := w.heap.size) (a := w) (by (first | (go_grown; done) | (refine below_drewN ?_ _; go_grown; done) | (refine Below.drew (below_drewN ?_ _); go_grown; done))) hb4 (by go_size); (try have hy4 : w.heap.size < w4.heap.size := by omega); (try have hyy4 : w.heap.size + 1 < w4.heap.size := by omega)
  have s24 : w2.heap.size < w4.heap.size := by omega
  go_wp2_with fail
  refine (H3.out _).mono ?_; rintro e w5 ⟨rfl, hb5⟩; obtain ⟨hc5, hf5, hz5, hd5⟩ := bcell hb5; (try simp at hz5); replace hb5 := Below.via (B := w.heap.size) (a := w) (by (first | (go_grown; done) | (refine below_drewN ?_ _; go_grown; done) | (refine Below.drew (below_drewN ?_ _); go_grown; done))) hb5 (by go_size); (try have hy5 : w.heap.size < w5.heap.size := by omega); (try have hyy5 : w.heap.size + 1 < w5.heap.size := by omega)
  go_wp2
  go_ret
  exact ⟨rfl, by go_grown⟩
end Go.Proofs.Ytkfpnckhfdmjfaa
