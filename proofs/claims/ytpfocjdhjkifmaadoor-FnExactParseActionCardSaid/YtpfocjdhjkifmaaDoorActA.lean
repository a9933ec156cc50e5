/- Actions, valid or not, by contract in both programs. Conditions: none. -/
import Derived.Test.YtpfocjdhjkifmaaDoorNum
namespace Go.Proofs.YtpfocjdhjkifmaaDoor
open Go.RowKit
set_option linter.unusedVariables false

/-- A valid action, by its tests. -/
def actB (k : Int) (cd md up to c0 m0 n0 : Bool) : Bool :=
  if k = 0 ∨ k = 1 ∨ k = 10 then c0 && m0 && n0
  else if k = 2 then n0 && (c0 || cd) && (m0 || md) && !(c0 && m0)
  else if k = 3 ∨ k = 4 then c0 && m0 && up
  else if k = 5 ∨ k = 9 then c0 && m0 && to
  else if k = 6 then cd && md && n0
  else if k = 7 then cd && m0 && up
  else if k = 8 then c0 && md && n0
  else false
def isAct (k c m n : Int) : Bool := actB k (inB 1 56 c) (inB 1 15 m) (inB 1 3 n) (inB 0 3 n) (decide (c = 0)) (decide (m = 0)) (decide (n = 0))
theorem act_other {k : Int} (h : k < 0 ∨ 10 < k) (cd md up to c0 m0 n0 : Bool) : actB k cd md up to c0 m0 n0 = false := by
  unfold actB
  rw [if_neg (by omega), if_neg (by omega), if_neg (by omega), if_neg (by omega), if_neg (by omega), if_neg (by omega), if_neg (by omega)]
theorem in_nz (x hi : Int) : inB 1 hi x = true → ¬ x = 0 := by unfold inB; simp; omega
theorem kinds (k : Int) : (k < 0 ∨ 10 < k) ∨ k = 0 ∨ k = 1 ∨ k = 2 ∨ k = 3 ∨ k = 4 ∨ k = 5 ∨ k = 6 ∨ k = 7 ∨ k = 8 ∨ k = 9 ∨ k = 10 := by omega

set_option maxRecDepth 100000 in
set_option maxHeartbeats 1000000 in
theorem iIsAction_0 (c m n : Int) (w : World) : Calls Tryd.prog 55 #[.agg #[.int .i64 0, .int .i64 c, .int .i64 m, .int .i64 n]] w fun e w' => e = .returned (.bool (isAct 0 c m n)) ∧ Below w.heap.size w w' := by
  have h : isAct 0 c m n = (decide (c = 0) && decide (m = 0) && decide (n = 0)) := rfl
  rw [h]; clear h
  go_enter Tryd.func55, Tryd.ntmps55
  go_wp2
  all_goals
    go_ret
    refine ⟨ret_bool ?_, by (first | (go_grown; done) | (refine below_drewN ?_ _; go_grown; done) | (refine Below.drew (below_drewN ?_ _); go_grown; done))⟩
    first | (simp [*]; done) | (rw [Bool.eq_iff_iff]; simp; omega) | (rw [Bool.eq_iff_iff]; simp [*]; omega)

set_option maxRecDepth 100000 in
set_option maxHeartbeats 1000000 in
theorem iIsAction_1 (c m n : Int) (w : World) : Calls Tryd.prog 55 #[.agg #[.int .i64 1, .int .i64 c, .int .i64 m, .int .i64 n]] w fun e w' => e = .returned (.bool (isAct 1 c m n)) ∧ Below w.heap.size w w' := by
  have h : isAct 1 c m n = (decide (c = 0) && decide (m = 0) && decide (n = 0)) := rfl
  rw [h]; clear h
  go_enter Tryd.func55, Tryd.ntmps55
  go_wp2
  all_goals
    go_ret
    refine ⟨ret_bool ?_, by (first | (go_grown; done) | (refine below_drewN ?_ _; go_grown; done) | (refine Below.drew (below_drewN ?_ _); go_grown; done))⟩
    first | (simp [*]; done) | (rw [Bool.eq_iff_iff]; simp; omega) | (rw [Bool.eq_iff_iff]; simp [*]; omega)

set_option maxRecDepth 100000 in
set_option maxHeartbeats 1000000 in
theorem iIsAction_2 (c m n : Int) (w : World) : Calls Tryd.prog 55 #[.agg #[.int .i64 2, .int .i64 c, .int .i64 m, .int .i64 n]] w fun e w' => e = .returned (.bool (isAct 2 c m n)) ∧ Below w.heap.size w w' := by
  have h : isAct 2 c m n = (decide (n = 0) && (decide (c = 0) || (decide (1 ≤ c) && decide (c ≤ 56))) && (decide (m = 0) || (decide (1 ≤ m) && decide (m ≤ 15))) && !(decide (c = 0) && decide (m = 0))) := rfl
  rw [h]; clear h
  go_enter Tryd.func55, Tryd.ntmps55
  go_wp2
  all_goals
    go_ret
    refine ⟨ret_bool ?_, by (first | (go_grown; done) | (refine below_drewN ?_ _; go_grown; done) | (refine Below.drew (below_drewN ?_ _); go_grown; done))⟩
    first | (simp [*]; done) | (rw [Bool.eq_iff_iff]; simp; omega) | (rw [Bool.eq_iff_iff]; simp [*]; omega)

set_option maxRecDepth 100000 in
set_option maxHeartbeats 1000000 in
theorem iIsAction_3 (c m n : Int) (w : World) : Calls Tryd.prog 55 #[.agg #[.int .i64 3, .int .i64 c, .int .i64 m, .int .i64 n]] w fun e w' => e = .returned (.bool (isAct 3 c m n)) ∧ Below w.heap.size w w' := by
  have h : isAct 3 c m n = (decide (c = 0) && decide (m = 0) && (decide (1 ≤ n) && decide (n ≤ 3))) := rfl
  rw [h]; clear h
  go_enter Tryd.func55, Tryd.ntmps55
  go_wp2
  all_goals
    go_ret
    refine ⟨ret_bool ?_, by (first | (go_grown; done) | (refine below_drewN ?_ _; go_grown; done) | (refine Below.drew (below_drewN ?_ _); go_grown; done))⟩
    first | (simp [*]; done) | (rw [Bool.eq_iff_iff]; simp; omega) | (rw [Bool.eq_iff_iff]; simp [*]; omega)

set_option maxRecDepth 100000 in
set_option maxHeartbeats 1000000 in
theorem iIsAction_4 (c m n : Int) (w : World) : Calls Tryd.prog 55 #[.agg #[.int .i64 4, .int .i64 c, .int .i64 m, .int .i64 n]] w fun e w' => e = .returned (.bool (isAct 4 c m n)) ∧ Below w.heap.size w w' := by
  have h : isAct 4 c m n = (decide (c = 0) && decide (m = 0) && (decide (1 ≤ n) && decide (n ≤ 3))) := rfl
  rw [h]; clear h
  go_enter Tryd.func55, Tryd.ntmps55
  go_wp2
  all_goals
    go_ret
    refine ⟨ret_bool ?_, by (first | (go_grown; done) | (refine below_drewN ?_ _; go_grown; done) | (refine Below.drew (below_drewN ?_ _); go_grown; done))⟩
    first | (simp [*]; done) | (rw [Bool.eq_iff_iff]; simp; omega) | (rw [Bool.eq_iff_iff]; simp [*]; omega)

set_option maxRecDepth 100000 in
set_option maxHeartbeats 1000000 in
theorem iIsAction_5 (c m n : Int) (w : World) : Calls Tryd.prog 55 #[.agg #[.int .i64 5, .int .i64 c, .int .i64 m, .int .i64 n]] w fun e w' => e = .returned (.bool (isAct 5 c m n)) ∧ Below w.heap.size w w' := by
  have h : isAct 5 c m n = (decide (c = 0) && decide (m = 0) && (decide (0 ≤ n) && decide (n ≤ 3))) := rfl
  rw [h]; clear h
  go_enter Tryd.func55, Tryd.ntmps55
  go_wp2
  all_goals
    go_ret
    refine ⟨ret_bool ?_, by (first | (go_grown; done) | (refine below_drewN ?_ _; go_grown; done) | (refine Below.drew (below_drewN ?_ _); go_grown; done))⟩
    first | (simp [*]; done) | (rw [Bool.eq_iff_iff]; simp; omega) | (rw [Bool.eq_iff_iff]; simp [*]; omega)

set_option maxRecDepth 100000 in
set_option maxHeartbeats 1000000 in
theorem iIsAction_6 (c m n : Int) (w : World) : Calls Tryd.prog 55 #[.agg #[.int .i64 6, .int .i64 c, .int .i64 m, .int .i64 n]] w fun e w' => e = .returned (.bool (isAct 6 c m n)) ∧ Below w.heap.size w w' := by
  have h : isAct 6 c m n = ((decide (1 ≤ c) && decide (c ≤ 56)) && (decide (1 ≤ m) && decide (m ≤ 15)) && decide (n = 0)) := rfl
  rw [h]; clear h
  go_enter Tryd.func55, Tryd.ntmps55
  go_wp2
  all_goals
    go_ret
    refine ⟨ret_bool ?_, by (first | (go_grown; done) | (refine below_drewN ?_ _; go_grown; done) | (refine Below.drew (below_drewN ?_ _); go_grown; done))⟩
    first | (simp [*]; done) | (rw [Bool.eq_iff_iff]; simp; omega) | (rw [Bool.eq_iff_iff]; simp [*]; omega)

set_option maxRecDepth 100000 in
set_option maxHeartbeats 1000000 in
theorem iIsAction_7 (c m n : Int) (w : World) : Calls Tryd.prog 55 #[.agg #[.int .i64 7, .int .i64 c, .int .i64 m, .int .i64 n]] w fun e w' => e = .returned (.bool (isAct 7 c m n)) ∧ Below w.heap.size w w' := by
  have h : isAct 7 c m n = ((decide (1 ≤ c) && decide (c ≤ 56)) && decide (m = 0) && (decide (1 ≤ n) && decide (n ≤ 3))) := rfl
  rw [h]; clear h
  go_enter Tryd.func55, Tryd.ntmps55
  go_wp2
  all_goals
    go_ret
    refine ⟨ret_bool ?_, by (first | (go_grown; done) | (refine below_drewN ?_ _; go_grown; done) | (refine Below.drew (below_drewN ?_ _); go_grown; done))⟩
    first | (simp [*]; done) | (rw [Bool.eq_iff_iff]; simp; omega) | (rw [Bool.eq_iff_iff]; simp [*]; omega)

set_option maxRecDepth 100000 in
set_option maxHeartbeats 1000000 in
theorem iIsAction_8 (c m n : Int) (w : World) : Calls Tryd.prog 55 #[.agg #[.int .i64 8, .int .i64 c, .int .i64 m, .int .i64 n]] w fun e w' => e = .returned (.bool (isAct 8 c m n)) ∧ Below w.heap.size w w' := by
  have h : isAct 8 c m n = (decide (c = 0) && (decide (1 ≤ m) && decide (m ≤ 15)) && decide (n = 0)) := rfl
  rw [h]; clear h
  go_enter Tryd.func55, Tryd.ntmps55
  go_wp2
  all_goals
    go_ret
    refine ⟨ret_bool ?_, by (first | (go_grown; done) | (refine below_drewN ?_ _; go_grown; done) | (refine Below.drew (below_drewN ?_ _); go_grown; done))⟩
    first | (simp [*]; done) | (rw [Bool.eq_iff_iff]; simp; omega) | (rw [Bool.eq_iff_iff]; simp [*]; omega)

set_option maxRecDepth 100000 in
set_option maxHeartbeats 1000000 in
theorem iIsAction_9 (c m n : Int) (w : World) : Calls Tryd.prog 55 #[.agg #[.int .i64 9, .int .i64 c, .int .i64 m, .int .i64 n]] w fun e w' => e = .returned (.bool (isAct 9 c m n)) ∧ Below w.heap.size w w' := by
  have h : isAct 9 c m n = (decide (c = 0) && decide (m = 0) && (decide (0 ≤ n) && decide (n ≤ 3))) := rfl
  rw [h]; clear h
  go_enter Tryd.func55, Tryd.ntmps55
  go_wp2
  all_goals
    go_ret
    refine ⟨ret_bool ?_, by (first | (go_grown; done) | (refine below_drewN ?_ _; go_grown; done) | (refine Below.drew (below_drewN ?_ _); go_grown; done))⟩
    first | (simp [*]; done) | (rw [Bool.eq_iff_iff]; simp; omega) | (rw [Bool.eq_iff_iff]; simp [*]; omega)

set_option maxRecDepth 100000 in
set_option maxHeartbeats 1000000 in
theorem iIsAction_10 (c m n : Int) (w : World) : Calls Tryd.prog 55 #[.agg #[.int .i64 10, .int .i64 c, .int .i64 m, .int .i64 n]] w fun e w' => e = .returned (.bool (isAct 10 c m n)) ∧ Below w.heap.size w w' := by
  have h : isAct 10 c m n = (decide (c = 0) && decide (m = 0) && decide (n = 0)) := rfl
  rw [h]; clear h
  go_enter Tryd.func55, Tryd.ntmps55
  go_wp2
  all_goals
    go_ret
    refine ⟨ret_bool ?_, by (first | (go_grown; done) | (refine below_drewN ?_ _; go_grown; done) | (refine Below.drew (below_drewN ?_ _); go_grown; done))⟩
    first | (simp [*]; done) | (rw [Bool.eq_iff_iff]; simp; omega) | (rw [Bool.eq_iff_iff]; simp [*]; omega)

set_option maxRecDepth 100000 in
set_option maxHeartbeats 1000000 in
theorem iIsAction_other (k c m n : Int) (h : k < 0 ∨ 10 < k) (w : World) : Calls Tryd.prog 55 #[.agg #[.int .i64 k, .int .i64 c, .int .i64 m, .int .i64 n]] w fun e w' => e = .returned (.bool (isAct k c m n)) ∧ Below w.heap.size w w' := by
  have hr : isAct k c m n = false := by unfold isAct; exact act_other h _ _ _ _ _ _ _
  rw [hr]; clear hr
  rcases h with h | h
  all_goals
    go_enter Tryd.func55, Tryd.ntmps55
    go_wp2
    go_ret
    exact ⟨rfl, by (first | (go_grown; done) | (refine below_drewN ?_ _; go_grown; done) | (refine Below.drew (below_drewN ?_ _); go_grown; done))⟩

theorem iIsAction_any (k c m n : Int) (w : World) : Calls Tryd.prog 55 #[.agg #[.int .i64 k, .int .i64 c, .int .i64 m, .int .i64 n]] w fun e w' => e = .returned (.bool (isAct k c m n)) ∧ Below w.heap.size w w' := by
  rcases kinds k with h | rfl | rfl | rfl | rfl | rfl | rfl | rfl | rfl | rfl | rfl | rfl
  · exact iIsAction_other k c m n h w
  · exact iIsAction_0 c m n w
  · exact iIsAction_1 c m n w
  · exact iIsAction_2 c m n w
  · exact iIsAction_3 c m n w
  · exact iIsAction_4 c m n w
  · exact iIsAction_5 c m n w
  · exact iIsAction_6 c m n w
  · exact iIsAction_7 c m n w
  · exact iIsAction_8 c m n w
  · exact iIsAction_9 c m n w
  · exact iIsAction_10 c m n w

set_option maxRecDepth 100000 in
set_option maxHeartbeats 1000000 in
theorem sIsAction_0 (c m n : Int) (w : World) : Calls Tryd.prog 53 #[.agg #[.int .i64 0, .int .i64 c, .int .i64 m, .int .i64 n]] w fun e w' => e = .returned (.bool (isAct 0 c m n)) ∧ Below w.heap.size w w' := by
  have h : isAct 0 c m n = (decide (c = 0) && decide (m = 0) && decide (n = 0)) := rfl
  rw [h]; clear h
  have H1 := hid (l1In_any c 1 56)
  have H2 := hid (l1In_any m 1 15)
  have H3 := hid (l1In_any n 1 3)
  have H4 := hid (l1In_any n 0 3)
  generalize inB 1 56 c = vCD at *
  generalize inB 1 15 m = vMD at *
  generalize inB 1 3 n = vUP at *
  generalize inB 0 3 n = vTO at *
  go_enter Tryd.func53, Tryd.ntmps53
  go_wp2_with (first | (go_at_call 43; (with_reducible refine (H1.out _).mono ?_); rintro e w' ⟨rfl, rfl⟩) | (go_at_call 43; (with_reducible refine (H2.out _).mono ?_); rintro e w' ⟨rfl, rfl⟩) | (go_at_call 43; (with_reducible refine (H3.out _).mono ?_); rintro e w' ⟨rfl, rfl⟩) | (go_at_call 43; (with_reducible refine (H4.out _).mono ?_); rintro e w' ⟨rfl, rfl⟩))
  all_goals
    go_ret
    refine ⟨ret_bool ?_, by (first | (go_grown; done) | (refine below_drewN ?_ _; go_grown; done) | (refine Below.drew (below_drewN ?_ _); go_grown; done))⟩
    first | (simp [*]; done) | (rw [Bool.eq_iff_iff]; simp [*]; done)

set_option maxRecDepth 100000 in
set_option maxHeartbeats 1000000 in
theorem sIsAction_1 (c m n : Int) (w : World) : Calls Tryd.prog 53 #[.agg #[.int .i64 1, .int .i64 c, .int .i64 m, .int .i64 n]] w fun e w' => e = .returned (.bool (isAct 1 c m n)) ∧ Below w.heap.size w w' := by
  have h : isAct 1 c m n = (decide (c = 0) && decide (m = 0) && decide (n = 0)) := rfl
  rw [h]; clear h
  have H1 := hid (l1In_any c 1 56)
  have H2 := hid (l1In_any m 1 15)
  have H3 := hid (l1In_any n 1 3)
  have H4 := hid (l1In_any n 0 3)
  generalize inB 1 56 c = vCD at *
  generalize inB 1 15 m = vMD at *
  generalize inB 1 3 n = vUP at *
  generalize inB 0 3 n = vTO at *
  go_enter Tryd.func53, Tryd.ntmps53
  go_wp2_with (first | (go_at_call 43; (with_reducible refine (H1.out _).mono ?_); rintro e w' ⟨rfl, rfl⟩) | (go_at_call 43; (with_reducible refine (H2.out _).mono ?_); rintro e w' ⟨rfl, rfl⟩) | (go_at_call 43; (with_reducible refine (H3.out _).mono ?_); rintro e w' ⟨rfl, rfl⟩) | (go_at_call 43; (with_reducible refine (H4.out _).mono ?_); rintro e w' ⟨rfl, rfl⟩))
  all_goals
    go_ret
    refine ⟨ret_bool ?_, by (first | (go_grown; done) | (refine below_drewN ?_ _; go_grown; done) | (refine Below.drew (below_drewN ?_ _); go_grown; done))⟩
    first | (simp [*]; done) | (rw [Bool.eq_iff_iff]; simp [*]; done)

set_option maxRecDepth 100000 in
set_option maxHeartbeats 1000000 in
theorem sIsAction_2 (c m n : Int) (w : World) : Calls Tryd.prog 53 #[.agg #[.int .i64 2, .int .i64 c, .int .i64 m, .int .i64 n]] w fun e w' => e = .returned (.bool (isAct 2 c m n)) ∧ Below w.heap.size w w' := by
  have h : isAct 2 c m n = (decide (n = 0) && (decide (c = 0) || inB 1 56 c) && (decide (m = 0) || inB 1 15 m) && !(decide (c = 0) && decide (m = 0))) := rfl
  rw [h]; clear h
  have H1 := hid (l1In_any c 1 56)
  have H2 := hid (l1In_any m 1 15)
  have H3 := hid (l1In_any n 1 3)
  have H4 := hid (l1In_any n 0 3)
  have LC := hid (in_nz c 56)
  have LM := hid (in_nz m 15)
  generalize inB 1 56 c = vCD at *
  generalize inB 1 15 m = vMD at *
  generalize inB 1 3 n = vUP at *
  generalize inB 0 3 n = vTO at *
  go_enter Tryd.func53, Tryd.ntmps53
  go_wp2_with (first | (go_at_call 43; (with_reducible refine (H1.out _).mono ?_); rintro e w' ⟨rfl, rfl⟩) | (go_at_call 43; (with_reducible refine (H2.out _).mono ?_); rintro e w' ⟨rfl, rfl⟩) | (go_at_call 43; (with_reducible refine (H3.out _).mono ?_); rintro e w' ⟨rfl, rfl⟩) | (go_at_call 43; (with_reducible refine (H4.out _).mono ?_); rintro e w' ⟨rfl, rfl⟩))
  all_goals
    go_ret
    refine ⟨ret_bool ?_, by (first | (go_grown; done) | (refine below_drewN ?_ _; go_grown; done) | (refine Below.drew (below_drewN ?_ _); go_grown; done))⟩
    first | (have hc := LC.out (by assumption); have hm := LM.out (by assumption); rw [Bool.eq_iff_iff]; simp [*]; done) | (have hc := LC.out (by assumption); rw [Bool.eq_iff_iff]; simp [*]; done) | (have hm := LM.out (by assumption); rw [Bool.eq_iff_iff]; simp [*]; done) | (simp [*]; done) | (rw [Bool.eq_iff_iff]; simp [*]; done)

set_option maxRecDepth 100000 in
set_option maxHeartbeats 1000000 in
theorem sIsAction_3 (c m n : Int) (w : World) : Calls Tryd.prog 53 #[.agg #[.int .i64 3, .int .i64 c, .int .i64 m, .int .i64 n]] w fun e w' => e = .returned (.bool (isAct 3 c m n)) ∧ Below w.heap.size w w' := by
  have h : isAct 3 c m n = (decide (c = 0) && decide (m = 0) && inB 1 3 n) := rfl
  rw [h]; clear h
  have H1 := hid (l1In_any c 1 56)
  have H2 := hid (l1In_any m 1 15)
  have H3 := hid (l1In_any n 1 3)
  have H4 := hid (l1In_any n 0 3)
  generalize inB 1 56 c = vCD at *
  generalize inB 1 15 m = vMD at *
  generalize inB 1 3 n = vUP at *
  generalize inB 0 3 n = vTO at *
  go_enter Tryd.func53, Tryd.ntmps53
  go_wp2_with (first | (go_at_call 43; (with_reducible refine (H1.out _).mono ?_); rintro e w' ⟨rfl, rfl⟩) | (go_at_call 43; (with_reducible refine (H2.out _).mono ?_); rintro e w' ⟨rfl, rfl⟩) | (go_at_call 43; (with_reducible refine (H3.out _).mono ?_); rintro e w' ⟨rfl, rfl⟩) | (go_at_call 43; (with_reducible refine (H4.out _).mono ?_); rintro e w' ⟨rfl, rfl⟩))
  all_goals
    go_ret
    refine ⟨ret_bool ?_, by (first | (go_grown; done) | (refine below_drewN ?_ _; go_grown; done) | (refine Below.drew (below_drewN ?_ _); go_grown; done))⟩
    first | (simp [*]; done) | (rw [Bool.eq_iff_iff]; simp [*]; done)

set_option maxRecDepth 100000 in
set_option maxHeartbeats 1000000 in
theorem sIsAction_4 (c m n : Int) (w : World) : Calls Tryd.prog 53 #[.agg #[.int .i64 4, .int .i64 c, .int .i64 m, .int .i64 n]] w fun e w' => e = .returned (.bool (isAct 4 c m n)) ∧ Below w.heap.size w w' := by
  have h : isAct 4 c m n = (decide (c = 0) && decide (m = 0) && inB 1 3 n) := rfl
  rw [h]; clear h
  have H1 := hid (l1In_any c 1 56)
  have H2 := hid (l1In_any m 1 15)
  have H3 := hid (l1In_any n 1 3)
  have H4 := hid (l1In_any n 0 3)
  generalize inB 1 56 c = vCD at *
  generalize inB 1 15 m = vMD at *
  generalize inB 1 3 n = vUP at *
  generalize inB 0 3 n = vTO at *
  go_enter Tryd.func53, Tryd.ntmps53
  go_wp2_with (first | (go_at_call 43; (with_reducible refine (H1.out _).mono ?_); rintro e w' ⟨rfl, rfl⟩) | (go_at_call 43; (with_reducible refine (H2.out _).mono ?_); rintro e w' ⟨rfl, rfl⟩) | (go_at_call 43; (with_reducible refine (H3.out _).mono ?_); rintro e w' ⟨rfl, rfl⟩) | (go_at_call 43; (with_reducible refine (H4.out _).mono ?_); rintro e w' ⟨rfl, rfl⟩))
  all_goals
    go_ret
    refine ⟨ret_bool ?_, by (first | (go_grown; done) | (refine below_drewN ?_ _; go_grown; done) | (refine Below.drew (below_drewN ?_ _); go_grown; done))⟩
    first | (simp [*]; done) | (rw [Bool.eq_iff_iff]; simp [*]; done)

set_option maxRecDepth 100000 in
set_option maxHeartbeats 1000000 in
theorem sIsAction_5 (c m n : Int) (w : World) : Calls Tryd.prog 53 #[.agg #[.int .i64 5, .int .i64 c, .int .i64 m, .int .i64 n]] w fun e w' => e = .returned (.bool (isAct 5 c m n)) ∧ Below w.heap.size w w' := by
  have h : isAct 5 c m n = (decide (c = 0) && decide (m = 0) && inB 0 3 n) := rfl
  rw [h]; clear h
  have H1 := hid (l1In_any c 1 56)
  have H2 := hid (l1In_any m 1 15)
  have H3 := hid (l1In_any n 1 3)
  have H4 := hid (l1In_any n 0 3)
  generalize inB 1 56 c = vCD at *
  generalize inB 1 15 m = vMD at *
  generalize inB 1 3 n = vUP at *
  generalize inB 0 3 n = vTO at *
  go_enter Tryd.func53, Tryd.ntmps53
  go_wp2_with (first | (go_at_call 43; (with_reducible refine (H1.out _).mono ?_); rintro e w' ⟨rfl, rfl⟩) | (go_at_call 43; (with_reducible refine (H2.out _).mono ?_); rintro e w' ⟨rfl, rfl⟩) | (go_at_call 43; (with_reducible refine (H3.out _).mono ?_); rintro e w' ⟨rfl, rfl⟩) | (go_at_call 43; (with_reducible refine (H4.out _).mono ?_); rintro e w' ⟨rfl, rfl⟩))
  all_goals
    go_ret
    refine ⟨ret_bool ?_, by (first | (go_grown; done) | (refine below_drewN ?_ _; go_grown; done) | (refine Below.drew (below_drewN ?_ _); go_grown; done))⟩
    first | (simp [*]; done) | (rw [Bool.eq_iff_iff]; simp [*]; done)

set_option maxRecDepth 100000 in
set_option maxHeartbeats 1000000 in
theorem sIsAction_6 (c m n : Int) (w : World) : Calls Tryd.prog 53 #[.agg #[.int .i64 6, .int .i64 c, .int .i64 m, .int .i64 n]] w fun e w' => e = .returned (.bool (isAct 6 c m n)) ∧ Below w.heap.size w w' := by
  have h : isAct 6 c m n = (inB 1 56 c && inB 1 15 m && decide (n = 0)) := rfl
  rw [h]; clear h
  have H1 := hid (l1In_any c 1 56)
  have H2 := hid (l1In_any m 1 15)
  have H3 := hid (l1In_any n 1 3)
  have H4 := hid (l1In_any n 0 3)
  generalize inB 1 56 c = vCD at *
  generalize inB 1 15 m = vMD at *
  generalize inB 1 3 n = vUP at *
  generalize inB 0 3 n = vTO at *
  go_enter Tryd.func53, Tryd.ntmps53
  go_wp2_with (first | (go_at_call 43; (with_reducible refine (H1.out _).mono ?_); rintro e w' ⟨rfl, rfl⟩) | (go_at_call 43; (with_reducible refine (H2.out _).mono ?_); rintro e w' ⟨rfl, rfl⟩) | (go_at_call 43; (with_reducible refine (H3.out _).mono ?_); rintro e w' ⟨rfl, rfl⟩) | (go_at_call 43; (with_reducible refine (H4.out _).mono ?_); rintro e w' ⟨rfl, rfl⟩))
  all_goals
    go_ret
    refine ⟨ret_bool ?_, by (first | (go_grown; done) | (refine below_drewN ?_ _; go_grown; done) | (refine Below.drew (below_drewN ?_ _); go_grown; done))⟩
    first | (simp [*]; done) | (rw [Bool.eq_iff_iff]; simp [*]; done)

set_option maxRecDepth 100000 in
set_option maxHeartbeats 1000000 in
theorem sIsAction_7 (c m n : Int) (w : World) : Calls Tryd.prog 53 #[.agg #[.int .i64 7, .int .i64 c, .int .i64 m, .int .i64 n]] w fun e w' => e = .returned (.bool (isAct 7 c m n)) ∧ Below w.heap.size w w' := by
  have h : isAct 7 c m n = (inB 1 56 c && decide (m = 0) && inB 1 3 n) := rfl
  rw [h]; clear h
  have H1 := hid (l1In_any c 1 56)
  have H2 := hid (l1In_any m 1 15)
  have H3 := hid (l1In_any n 1 3)
  have H4 := hid (l1In_any n 0 3)
  generalize inB 1 56 c = vCD at *
  generalize inB 1 15 m = vMD at *
  generalize inB 1 3 n = vUP at *
  generalize inB 0 3 n = vTO at *
  go_enter Tryd.func53, Tryd.ntmps53
  go_wp2_with (first | (go_at_call 43; (with_reducible refine (H1.out _).mono ?_); rintro e w' ⟨rfl, rfl⟩) | (go_at_call 43; (with_reducible refine (H2.out _).mono ?_); rintro e w' ⟨rfl, rfl⟩) | (go_at_call 43; (with_reducible refine (H3.out _).mono ?_); rintro e w' ⟨rfl, rfl⟩) | (go_at_call 43; (with_reducible refine (H4.out _).mono ?_); rintro e w' ⟨rfl, rfl⟩))
  all_goals
    go_ret
    refine ⟨ret_bool ?_, by (first | (go_grown; done) | (refine below_drewN ?_ _; go_grown; done) | (refine Below.drew (below_drewN ?_ _); go_grown; done))⟩
    first | (simp [*]; done) | (rw [Bool.eq_iff_iff]; simp [*]; done)

set_option maxRecDepth 100000 in
set_option maxHeartbeats 1000000 in
theorem sIsAction_8 (c m n : Int) (w : World) : Calls Tryd.prog 53 #[.agg #[.int .i64 8, .int .i64 c, .int .i64 m, .int .i64 n]] w fun e w' => e = .returned (.bool (isAct 8 c m n)) ∧ Below w.heap.size w w' := by
  have h : isAct 8 c m n = (decide (c = 0) && inB 1 15 m && decide (n = 0)) := rfl
  rw [h]; clear h
  have H1 := hid (l1In_any c 1 56)
  have H2 := hid (l1In_any m 1 15)
  have H3 := hid (l1In_any n 1 3)
  have H4 := hid (l1In_any n 0 3)
  generalize inB 1 56 c = vCD at *
  generalize inB 1 15 m = vMD at *
  generalize inB 1 3 n = vUP at *
  generalize inB 0 3 n = vTO at *
  go_enter Tryd.func53, Tryd.ntmps53
  go_wp2_with (first | (go_at_call 43; (with_reducible refine (H1.out _).mono ?_); rintro e w' ⟨rfl, rfl⟩) | (go_at_call 43; (with_reducible refine (H2.out _).mono ?_); rintro e w' ⟨rfl, rfl⟩) | (go_at_call 43; (with_reducible refine (H3.out _).mono ?_); rintro e w' ⟨rfl, rfl⟩) | (go_at_call 43; (with_reducible refine (H4.out _).mono ?_); rintro e w' ⟨rfl, rfl⟩))
  all_goals
    go_ret
    refine ⟨ret_bool ?_, by (first | (go_grown; done) | (refine below_drewN ?_ _; go_grown; done) | (refine Below.drew (below_drewN ?_ _); go_grown; done))⟩
    first | (simp [*]; done) | (rw [Bool.eq_iff_iff]; simp [*]; done)

set_option maxRecDepth 100000 in
set_option maxHeartbeats 1000000 in
theorem sIsAction_9 (c m n : Int) (w : World) : Calls Tryd.prog 53 #[.agg #[.int .i64 9, .int .i64 c, .int .i64 m, .int .i64 n]] w fun e w' => e = .returned (.bool (isAct 9 c m n)) ∧ Below w.heap.size w w' := by
  have h : isAct 9 c m n = (decide (c = 0) && decide (m = 0) && inB 0 3 n) := rfl
  rw [h]; clear h
  have H1 := hid (l1In_any c 1 56)
  have H2 := hid (l1In_any m 1 15)
  have H3 := hid (l1In_any n 1 3)
  have H4 := hid (l1In_any n 0 3)
  generalize inB 1 56 c = vCD at *
  generalize inB 1 15 m = vMD at *
  generalize inB 1 3 n = vUP at *
  generalize inB 0 3 n = vTO at *
  go_enter Tryd.func53, Tryd.ntmps53
  go_wp2_with (first | (go_at_call 43; (with_reducible refine (H1.out _).mono ?_); rintro e w' ⟨rfl, rfl⟩) | (go_at_call 43; (with_reducible refine (H2.out _).mono ?_); rintro e w' ⟨rfl, rfl⟩) | (go_at_call 43; (with_reducible refine (H3.out _).mono ?_); rintro e w' ⟨rfl, rfl⟩) | (go_at_call 43; (with_reducible refine (H4.out _).mono ?_); rintro e w' ⟨rfl, rfl⟩))
  all_goals
    go_ret
    refine ⟨ret_bool ?_, by (first | (go_grown; done) | (refine below_drewN ?_ _; go_grown; done) | (refine Below.drew (below_drewN ?_ _); go_grown; done))⟩
    first | (simp [*]; done) | (rw [Bool.eq_iff_iff]; simp [*]; done)

set_option maxRecDepth 100000 in
set_option maxHeartbeats 1000000 in
theorem sIsAction_10 (c m n : Int) (w : World) : Calls Tryd.prog 53 #[.agg #[.int .i64 10, .int .i64 c, .int .i64 m, .int .i64 n]] w fun e w' => e = .returned (.bool (isAct 10 c m n)) ∧ Below w.heap.size w w' := by
  have h : isAct 10 c m n = (decide (c = 0) && decide (m = 0) && decide (n = 0)) := rfl
  rw [h]; clear h
  have H1 := hid (l1In_any c 1 56)
  have H2 := hid (l1In_any m 1 15)
  have H3 := hid (l1In_any n 1 3)
  have H4 := hid (l1In_any n 0 3)
  generalize inB 1 56 c = vCD at *
  generalize inB 1 15 m = vMD at *
  generalize inB 1 3 n = vUP at *
  generalize inB 0 3 n = vTO at *
  go_enter Tryd.func53, Tryd.ntmps53
  go_wp2_with (first | (go_at_call 43; (with_reducible refine (H1.out _).mono ?_); rintro e w' ⟨rfl, rfl⟩) | (go_at_call 43; (with_reducible refine (H2.out _).mono ?_); rintro e w' ⟨rfl, rfl⟩) | (go_at_call 43; (with_reducible refine (H3.out _).mono ?_); rintro e w' ⟨rfl, rfl⟩) | (go_at_call 43; (with_reducible refine (H4.out _).mono ?_); rintro e w' ⟨rfl, rfl⟩))
  all_goals
    go_ret
    refine ⟨ret_bool ?_, by (first | (go_grown; done) | (refine below_drewN ?_ _; go_grown; done) | (refine Below.drew (below_drewN ?_ _); go_grown; done))⟩
    first | (simp [*]; done) | (rw [Bool.eq_iff_iff]; simp [*]; done)

set_option maxRecDepth 100000 in
set_option maxHeartbeats 1000000 in
theorem sIsAction_other (k c m n : Int) (h : k < 0 ∨ 10 < k) (w : World) : Calls Tryd.prog 53 #[.agg #[.int .i64 k, .int .i64 c, .int .i64 m, .int .i64 n]] w fun e w' => e = .returned (.bool (isAct k c m n)) ∧ Below w.heap.size w w' := by
  have hr : isAct k c m n = false := by unfold isAct; exact act_other h _ _ _ _ _ _ _
  rw [hr]; clear hr
  have H1 := hid (l1In_any c 1 56)
  have H2 := hid (l1In_any m 1 15)
  have H3 := hid (l1In_any n 1 3)
  rcases h with h | h
  all_goals
    go_enter Tryd.func53, Tryd.ntmps53
    go_wp2_with (first | (go_at_call 43; (with_reducible refine (H1.out _).mono ?_); rintro e w' ⟨rfl, rfl⟩) | (go_at_call 43; (with_reducible refine (H2.out _).mono ?_); rintro e w' ⟨rfl, rfl⟩) | (go_at_call 43; (with_reducible refine (H3.out _).mono ?_); rintro e w' ⟨rfl, rfl⟩))
    go_ret
    exact ⟨rfl, by (first | (go_grown; done) | (refine below_drewN ?_ _; go_grown; done) | (refine Below.drew (below_drewN ?_ _); go_grown; done))⟩

theorem sIsAction_any (k c m n : Int) (w : World) : Calls Tryd.prog 53 #[.agg #[.int .i64 k, .int .i64 c, .int .i64 m, .int .i64 n]] w fun e w' => e = .returned (.bool (isAct k c m n)) ∧ Below w.heap.size w w' := by
  rcases kinds k with h | rfl | rfl | rfl | rfl | rfl | rfl | rfl | rfl | rfl | rfl | rfl
  · exact sIsAction_other k c m n h w
  · exact sIsAction_0 c m n w
  · exact sIsAction_1 c m n w
  · exact sIsAction_2 c m n w
  · exact sIsAction_3 c m n w
  · exact sIsAction_4 c m n w
  · exact sIsAction_5 c m n w
  · exact sIsAction_6 c m n w
  · exact sIsAction_7 c m n w
  · exact sIsAction_8 c m n w
  · exact sIsAction_9 c m n w
  · exact sIsAction_10 c m n w
end Go.Proofs.YtpfocjdhjkifmaaDoor
