/- The functions on readings, each by its contract in both programs: reading, ghosts, readings, alternatives, certain keys, accepting. Conditions: none. -/
import Derived.Test.YtmhpepicmnjmgaaMatD
namespace Go.Proofs.Ytmhpepicmnjmgaa
open Go.RowKit
set_option linter.unusedVariables false

theorem mk_of {r c x : Int} (h : isMk r c x = true) : ∃ R C k X : Nat, r = R ∧ c = C ∧ x = X ∧ Mx R C k ∧ X < 2 ^ k := by
  unfold isMk at h
  rw [Bool.and_eq_true] at h
  obtain ⟨R, C, k, rfl, rfl, hm⟩ := mx_of h.1
  have h1 : isMk R C x = true := by unfold isMk; rw [Bool.and_eq_true]; exact h
  rw [isMk_mx hm] at h1
  unfold inB at h1
  simp only [Bool.and_eq_true, decide_eq_true_eq] at h1
  obtain ⟨X, rfl⟩ := Int.eq_ofNat_of_zero_le h1.1
  refine ⟨R, C, k, X, rfl, rfl, rfl, hm, ?_⟩
  have e : (2 : Int) ^ k = ((2 ^ k : Nat) : Int) := by simp
  rw [e] at h1
  omega
theorem mk_yes {R C k X : Nat} (h : Mx R C k) (hX : X < 2 ^ k) : isMk R C X = true := by
  rw [isMk_mx h]
  apply inB_true
  have e : (2 : Int) ^ k = ((2 ^ k : Nat) : Int) := by simp
  rw [e]; omega
theorem x24 {R C k X : Nat} (h : Mx R C k) (hX : X < 2 ^ k) : X < 16777216 := by
  have h3 : 2 ^ k ≤ 2 ^ 24 := Nat.pow_le_pow_right (by omega) h.k24.1
  have h4 : (2 : Nat) ^ 24 = 16777216 := by decide
  omega
/-- What is read, as an int; nought for what is no mask. -/
def rdI (r c : Int) (d : Bool) (x : Int) : Int := if isMk r c x then ((MM.rd d r.toNat c.toNat x.toNat : Nat) : Int) else 0
theorem rdI_mk {R C k X : Nat} (h : Mx R C k) (hX : X < 2 ^ k) (d : Bool) : rdI R C d X = ((MM.rd d R C X : Nat) : Int) := by
  unfold rdI; rw [mk_yes h hX]; simp

section
variable (r c : Int) (d : Bool) (x : Int) (w : World)

theorem sReadMatrix_any : Calls Try.prog 29 #[.agg #[.int .i64 r, .int .i64 c, .bool d], .int .i64 x] w fun e w' => e = .returned (.tuple #[.int .i64 (rdI r c d x), .bool (isMk r c x)]) ∧ Below w.heap.size w w' := by
  have H0 := sIsMask_any r c d x
  cases h : isMk r c x with
  | false =>
    rw [h] at H0
    have hr : rdI r c d x = 0 := by unfold rdI; rw [h]; rfl
    rw [hr]
    have H0 := hid H0
    clear h hr
    go_enter Try.func29, Try.ntmps29
    go_wp2_with (go_at_call 20; (with_reducible refine (H0.out _).mono ?_); rintro e w1 ⟨rfl, hb1⟩; obtain ⟨hc1, hf1, hz1, hd1⟩ := bcell hb1; (try simp at hz1); replace hb1 := Below.via (B := w.heap.size) (a := w) (by (first | (go_grown; done) | (refine below_drewN ?_ _; go_grown; done) | (refine Below.drew (below_drewN ?_ _); go_grown; done))) hb1 (by go_size); (try have hy1 : w.heap.size < w1.heap.size := by omega); (try have hyy1 : w.heap.size + 1 < w1.heap.size := by omega))
    go_ret2
    exact ⟨rfl, by (first | (go_grown; done) | (refine below_drewN ?_ _; go_grown; done) | (refine Below.drew (below_drewN ?_ _); go_grown; done))⟩
  | true =>
    rw [h] at H0
    obtain ⟨R, C, k, X, rfl, rfl, rfl, hm, hX⟩ := mk_of h
    rw [rdI_mk hm hX]
    have H1 := hid (sread_any hm d X hX)
    have H0 := hid H0
    clear h hm hX
    go_enter Try.func29, Try.ntmps29
    go_wp2_with (first | (go_at_call 20; (with_reducible refine (H0.out _).mono ?_); rintro e w1 ⟨rfl, hb1⟩; obtain ⟨hc1, hf1, hz1, hd1⟩ := bcell hb1; (try simp at hz1); replace hb1 := Below.via (B := w.heap.size) (a := w) (by (first | (go_grown; done) | (refine below_drewN ?_ _; go_grown; done) | (refine Below.drew (below_drewN ?_ _); go_grown; done))) hb1 (by go_size); (try have hy1 : w.heap.size < w1.heap.size := by omega); (try have hyy1 : w.heap.size + 1 < w1.heap.size := by omega)) | (go_at_call 42; (with_reducible refine (H1.out _).mono ?_); rintro e w2 ⟨rfl, hb2⟩; obtain ⟨hc2, hf2, hz2, hd2⟩ := bcell hb2; (try simp at hz2); replace hb2 := Below.via (B := w.heap.size) (a := w) (by (first | (go_grown; done) | (refine below_drewN ?_ _; go_grown; done) | (refine Below.drew (below_drewN ?_ _); go_grown; done))) hb2 (by go_size); (try have hy2 : w.heap.size < w2.heap.size := by omega); (try have hyy2 : w.heap.size + 1 < w2.heap.size := by omega)))
    go_ret2
    exact ⟨rfl, by (first | (go_grown; done) | (refine below_drewN ?_ _; go_grown; done) | (refine Below.drew (below_drewN ?_ _); go_grown; done))⟩

theorem iReadMatrix_any : Calls Try.prog 24 #[.agg #[.int .i64 r, .int .i64 c, .bool d], .int .i64 x] w fun e w' => e = .returned (.tuple #[.int .i64 (rdI r c d x), .bool (isMk r c x)]) ∧ Below w.heap.size w w' := by
  have H0 := iIsMask_any r c d x
  cases h : isMk r c x with
  | false =>
    rw [h] at H0
    have hr : rdI r c d x = 0 := by unfold rdI; rw [h]; rfl
    rw [hr]
    have H0 := hid H0
    clear h hr
    go_enter Try.func24, Try.ntmps24
    go_wp2_with (go_at_call 21; (with_reducible refine (H0.out _).mono ?_); rintro e w1 ⟨rfl, hb1⟩; obtain ⟨hc1, hf1, hz1, hd1⟩ := bcell hb1; (try simp at hz1); replace hb1 := Below.via (B := w.heap.size) (a := w) (by (first | (go_grown; done) | (refine below_drewN ?_ _; go_grown; done) | (refine Below.drew (below_drewN ?_ _); go_grown; done))) hb1 (by go_size); (try have hy1 : w.heap.size < w1.heap.size := by omega); (try have hyy1 : w.heap.size + 1 < w1.heap.size := by omega))
    go_ret2
    exact ⟨rfl, by (first | (go_grown; done) | (refine below_drewN ?_ _; go_grown; done) | (refine Below.drew (below_drewN ?_ _); go_grown; done))⟩
  | true =>
    rw [h] at H0
    obtain ⟨R, C, k, X, rfl, rfl, rfl, hm, hX⟩ := mk_of h
    rw [rdI_mk hm hX]
    have H1 := hid (iread_any hm d X hX)
    have H0 := hid H0
    clear h hm hX
    go_enter Try.func24, Try.ntmps24
    go_wp2_with (first | (go_at_call 21; (with_reducible refine (H0.out _).mono ?_); rintro e w1 ⟨rfl, hb1⟩; obtain ⟨hc1, hf1, hz1, hd1⟩ := bcell hb1; (try simp at hz1); replace hb1 := Below.via (B := w.heap.size) (a := w) (by (first | (go_grown; done) | (refine below_drewN ?_ _; go_grown; done) | (refine Below.drew (below_drewN ?_ _); go_grown; done))) hb1 (by go_size); (try have hy1 : w.heap.size < w1.heap.size := by omega); (try have hyy1 : w.heap.size + 1 < w1.heap.size := by omega)) | (go_at_call 41; (with_reducible refine (H1.out _).mono ?_); rintro e w2 ⟨rfl, hb2⟩; obtain ⟨hc2, hf2, hz2, hd2⟩ := bcell hb2; (try simp at hz2); replace hb2 := Below.via (B := w.heap.size) (a := w) (by (first | (go_grown; done) | (refine below_drewN ?_ _; go_grown; done) | (refine Below.drew (below_drewN ?_ _); go_grown; done))) hb2 (by go_size); (try have hy2 : w.heap.size < w2.heap.size := by omega); (try have hyy2 : w.heap.size + 1 < w2.heap.size := by omega)))
    go_ret2
    exact ⟨rfl, by (first | (go_grown; done) | (refine below_drewN ?_ _; go_grown; done) | (refine Below.drew (below_drewN ?_ _); go_grown; done))⟩
end
end Go.Proofs.Ytmhpepicmnjmgaa
