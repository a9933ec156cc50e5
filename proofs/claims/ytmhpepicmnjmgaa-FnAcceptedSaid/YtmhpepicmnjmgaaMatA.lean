/- The small functions of the matrix, each by its contract: valid matrices, their keys, valid masks. Conditions: none. -/
import Derived.Test.YtmhpepicmnjmgaaLib
import Derived.Test.YtmhpepicmnjmgaaProg
import Derived.WalkKit
import Derived.WalkLawsBesides
import Derived.WalkSpells
import Derived.Outline
import Derived.BigQuiet
import Derived.StillTailTactics
import Derived.Handy
namespace Go.Proofs.Ytmhpepicmnjmgaa
open Go.RowKit
set_option linter.unusedVariables false

def isMx (r c : Int) : Bool := decide (1 ≤ r) && decide (r ≤ 4) && decide (1 ≤ c) && decide (c ≤ 6)
theorem isMx_true {r c : Int} (h : isMx r c = true) : 1 ≤ r ∧ r ≤ 4 ∧ 1 ≤ c ∧ c ≤ 6 := by
  unfold isMx at h; simpa [and_assoc] using h
theorem isMx_mk {r c : Int} (h : 1 ≤ r ∧ r ≤ 4 ∧ 1 ≤ c ∧ c ≤ 6) : isMx r c = true := by
  unfold isMx; simpa [and_assoc] using h
theorem isMx_no {r c : Int} (h : ¬ (1 ≤ r ∧ r ≤ 4 ∧ 1 ≤ c ∧ c ≤ 6)) : isMx r c = false := by
  cases e : isMx r c with
  | false => rfl
  | true => exact absurd (isMx_true e) h
theorem tri (x lo hi : Int) (h : lo ≤ hi) : x < lo ∨ (lo ≤ x ∧ x ≤ hi) ∨ hi < x := by omega
theorem mx_cases (r c : Int) : r < 1 ∨ 4 < r ∨ (1 ≤ r ∧ r ≤ 4 ∧ c < 1) ∨ (1 ≤ r ∧ r ≤ 4 ∧ 6 < c) ∨ (1 ≤ r ∧ r ≤ 4 ∧ 1 ≤ c ∧ c ≤ 6) := by omega

def inB (lo hi x : Int) : Bool := decide (lo ≤ x) && decide (x ≤ hi)
theorem inB_true {lo hi x : Int} (h : lo ≤ x ∧ x ≤ hi) : inB lo hi x = true := by unfold inB; simpa using h
theorem inB_false {lo hi x : Int} (h : ¬ (lo ≤ x ∧ x ≤ hi)) : inB lo hi x = false := by unfold inB; simp; omega
theorem l1In_any (x lo hi : Int) (w : World) : Calls Try.prog 37 #[.int .i64 x, .int .i64 lo, .int .i64 hi] w fun e w' => e = .returned (.bool (inB lo hi x)) ∧ w = w' := by
  by_cases h1 : lo ≤ x
  · go_enter Try.func37, Try.ntmps37
    go_wp2
    go_ret
    exact ⟨ret_bool (by unfold inB; rw [Bool.eq_iff_iff]; simp; omega), rfl⟩
  · have h2 : x < lo := by omega
    go_enter Try.func37, Try.ntmps37
    go_wp2
    go_ret
    exact ⟨ret_bool (by unfold inB; rw [Bool.eq_iff_iff]; simp; omega), rfl⟩
/-- l1In where the outcome is known. -/
theorem l1In_yes (x lo hi : Int) (h : lo ≤ x ∧ x ≤ hi) (w : World) : Calls Try.prog 37 #[.int .i64 x, .int .i64 lo, .int .i64 hi] w fun e w' => e = .returned (.bool true) ∧ w = w' := by
  have := l1In_any x lo hi w
  rwa [inB_true h] at this
theorem l1In_no (x lo hi : Int) (h : ¬ (lo ≤ x ∧ x ≤ hi)) (w : World) : Calls Try.prog 37 #[.int .i64 x, .int .i64 lo, .int .i64 hi] w fun e w' => e = .returned (.bool false) ∧ w = w' := by
  have := l1In_any x lo hi w
  rwa [inB_false h] at this

theorem sIsMatrix_any (r c : Int) (d : Bool) (w : World) : Calls Try.prog 15 #[.agg #[.int .i64 r, .int .i64 c, .bool d]] w fun e w' => e = .returned (.bool (isMx r c)) ∧ Below w.heap.size w w' := by
  rcases mx_cases r c with h | h | ⟨h1, h2, h⟩ | ⟨h1, h2, h⟩ | ⟨h1, h2, h3, h4⟩
  all_goals
    go_enter Try.func15, Try.ntmps15
    go_wp2_with (first | (go_at_call 37; refine (l1In_yes _ _ _ (by omega) _).mono ?_; rintro e w' ⟨rfl, rfl⟩) | (go_at_call 37; refine (l1In_no _ _ _ (by omega) _).mono ?_; rintro e w' ⟨rfl, rfl⟩))
    go_ret
    refine ⟨ret_bool ?_, by go_grown⟩
    unfold isMx; rw [Bool.eq_iff_iff]; simp; try omega
theorem iIsMatrix_any (r c : Int) (d : Bool) (w : World) : Calls Try.prog 17 #[.agg #[.int .i64 r, .int .i64 c, .bool d]] w fun e w' => e = .returned (.bool (isMx r c)) ∧ Below w.heap.size w w' := by
  rcases mx_cases r c with h | h | ⟨h1, h2, h⟩ | ⟨h1, h2, h⟩ | ⟨h1, h2, h3, h4⟩
  all_goals
    go_enter Try.func17, Try.ntmps17
    go_wp2
    go_ret
    refine ⟨ret_bool ?_, by go_grown⟩
    unfold isMx; rw [Bool.eq_iff_iff]; simp; try omega

/-! ### the keys -/
/-- A valid matrix of R rows, C columns and k keys. -/
structure Mx (R C k : Nat) : Prop where
  r1 : 1 ≤ R
  r4 : R ≤ 4
  c1 : 1 ≤ C
  c6 : C ≤ 6
  k : k = R * C
theorem Mx.k24 {R C k : Nat} (h : Mx R C k) : k ≤ 24 ∧ 1 ≤ k := by
  rw [h.k]
  have h1 := Nat.mul_le_mul h.r4 h.c6
  have h2 := Nat.mul_le_mul h.r1 h.c1
  omega
theorem Mx.is {R C k : Nat} (h : Mx R C k) : isMx R C = true := isMx_mk ⟨by have := h.r1; omega, by have := h.r4; omega, by have := h.c1; omega, by have := h.c6; omega⟩
theorem mx_of {r c : Int} (h : isMx r c = true) : ∃ R C k : Nat, r = R ∧ c = C ∧ Mx R C k := by
  obtain ⟨h1, h2, h3, h4⟩ := isMx_true h
  exact ⟨r.toNat, c.toNat, _, by omega, by omega, by omega, by omega, by omega, by omega, rfl⟩
theorem sKeyCount_yes {R C k : Nat} (h : Mx R C k) (d : Bool) (w : World) : Calls Try.prog 18 #[.agg #[.int .i64 R, .int .i64 C, .bool d]] w fun e w' => e = .returned (.int .i64 k) ∧ Below w.heap.size w w' := by
  have Hs := sIsMatrix_any R C d
  rw [h.is] at Hs
  have H := hid Hs; clear Hs
  have hk := hid h.k
  have k24 := h.k24
  have e1 : ((R : Int) * C) = ((R * C : Nat) : Int) := by simp
  have b1 : (R : Int) * C ≤ 24 := by rw [e1, ← hk.out]; omega
  have b0 : 0 ≤ (R : Int) * C := by rw [e1]; omega
  have E := hid e1; clear e1
  go_enter Try.func18, Try.ntmps18
  go_wp2_with (go_at_call 15; refine (H.out _).mono ?_; rintro e w1 ⟨rfl, hb⟩; obtain ⟨hc, hf, hz, hd⟩ := bcell hb; (try simp at hz); replace hb := Below.via (B := w.heap.size) (a := w) (by (first | (go_grown; done) | (refine below_drewN ?_ _; go_grown; done) | (refine Below.drew (below_drewN ?_ _); go_grown; done))) hb (by go_size); (try have hy : w.heap.size < w1.heap.size := by omega); (try have hyy : w.heap.size + 1 < w1.heap.size := by omega))
  go_ret
  exact ⟨ret_int (by rw [hk.out]; exact E.out), by go_grown⟩
theorem iKeyCount_yes {R C k : Nat} (h : Mx R C k) (d : Bool) (w : World) : Calls Try.prog 19 #[.agg #[.int .i64 R, .int .i64 C, .bool d]] w fun e w' => e = .returned (.int .i64 k) ∧ Below w.heap.size w w' := by
  have Hs := iIsMatrix_any R C d
  rw [h.is] at Hs
  have H := hid Hs; clear Hs
  have hk := hid h.k
  have k24 := h.k24
  have e1 : ((R : Int) * C) = ((R * C : Nat) : Int) := by simp
  have b1 : (R : Int) * C ≤ 24 := by rw [e1, ← hk.out]; omega
  have b0 : 0 ≤ (R : Int) * C := by rw [e1]; omega
  have E := hid e1; clear e1
  go_enter Try.func19, Try.ntmps19
  go_wp2_with (go_at_call 17; refine (H.out _).mono ?_; rintro e w1 ⟨rfl, hb⟩; obtain ⟨hc, hf, hz, hd⟩ := bcell hb; (try simp at hz); replace hb := Below.via (B := w.heap.size) (a := w) (by (first | (go_grown; done) | (refine below_drewN ?_ _; go_grown; done) | (refine Below.drew (below_drewN ?_ _); go_grown; done))) hb (by go_size); (try have hy : w.heap.size < w1.heap.size := by omega); (try have hyy : w.heap.size + 1 < w1.heap.size := by omega))
  go_ret
  exact ⟨ret_int (by rw [hk.out]; exact E.out), by go_grown⟩
theorem sKeyCount_no {r c : Int} (h : isMx r c = false) (d : Bool) (w : World) : Calls Try.prog 18 #[.agg #[.int .i64 r, .int .i64 c, .bool d]] w fun e w' => e = .returned (.int .i64 0) ∧ Below w.heap.size w w' := by
  have Hs := sIsMatrix_any r c d
  rw [h] at Hs
  have H := hid Hs; clear Hs; clear h
  go_enter Try.func18, Try.ntmps18
  go_wp2_with (go_at_call 15; refine (H.out _).mono ?_; rintro e w1 ⟨rfl, hb⟩; obtain ⟨hc, hf, hz, hd⟩ := bcell hb; (try simp at hz); replace hb := Below.via (B := w.heap.size) (a := w) (by (first | (go_grown; done) | (refine below_drewN ?_ _; go_grown; done) | (refine Below.drew (below_drewN ?_ _); go_grown; done))) hb (by go_size); (try have hy : w.heap.size < w1.heap.size := by omega); (try have hyy : w.heap.size + 1 < w1.heap.size := by omega))
  go_ret
  exact ⟨rfl, by go_grown⟩
theorem iKeyCount_no {r c : Int} (h : isMx r c = false) (d : Bool) (w : World) : Calls Try.prog 19 #[.agg #[.int .i64 r, .int .i64 c, .bool d]] w fun e w' => e = .returned (.int .i64 0) ∧ Below w.heap.size w w' := by
  have Hs := iIsMatrix_any r c d
  rw [h] at Hs
  have H := hid Hs; clear Hs; clear h
  go_enter Try.func19, Try.ntmps19
  go_wp2_with (go_at_call 17; refine (H.out _).mono ?_; rintro e w1 ⟨rfl, hb⟩; obtain ⟨hc, hf, hz, hd⟩ := bcell hb; (try simp at hz); replace hb := Below.via (B := w.heap.size) (a := w) (by (first | (go_grown; done) | (refine below_drewN ?_ _; go_grown; done) | (refine Below.drew (below_drewN ?_ _); go_grown; done))) hb (by go_size); (try have hy : w.heap.size < w1.heap.size := by omega); (try have hyy : w.heap.size + 1 < w1.heap.size := by omega))
  go_ret
  exact ⟨rfl, by go_grown⟩
theorem pow_rng {k : Nat} (h : k ≤ 24) : 1 ≤ (2 : Int) ^ k ∧ (2 : Int) ^ k ≤ 16777216 := by
  have h1 : 2 ^ k ≤ 2 ^ 24 := Nat.pow_le_pow_right (by omega) h
  have h2 : (2 : Nat) ^ 24 = 16777216 := by decide
  have h3 := Nat.two_pow_pos k
  have e : (2 : Int) ^ k = ((2 ^ k : Nat) : Int) := by simp
  rw [e]
  generalize 2 ^ k = y at *
  omega
theorem sIsMask_mx {R C k : Nat} (h : Mx R C k) (d : Bool) (x : Int) (w : World) : Calls Try.prog 20 #[.agg #[.int .i64 R, .int .i64 C, .bool d], .int .i64 x] w fun e w' => e = .returned (.bool (inB 0 ((2 : Int) ^ k - 1) x)) ∧ Below w.heap.size w w' := by
  have Hs := sIsMatrix_any R C d
  rw [h.is] at Hs
  have H := hid Hs; clear Hs
  have Hk := hid (sKeyCount_yes h d)
  have k24 := h.k24
  obtain ⟨p1, p2⟩ := pow_rng k24.1
  have hs := shl_one k (by omega)
  go_enter Try.func20, Try.ntmps20
  go_wp2_with (first | (go_at_call 15; refine (H.out _).mono ?_; rintro e w1 ⟨rfl, hb1⟩; obtain ⟨hc1, hf1, hz1, hd1⟩ := bcell hb1; (try simp at hz1); replace hb1 := Below.via (B := w.heap.size) (a := w) (by (first | (go_grown; done) | (refine below_drewN ?_ _; go_grown; done) | (refine Below.drew (below_drewN ?_ _); go_grown; done))) hb1 (by go_size); (try have hy1 : w.heap.size < w1.heap.size := by omega); (try have hyy1 : w.heap.size + 1 < w1.heap.size := by omega)) | (go_at_call 18; refine (Hk.out _).mono ?_; rintro e w2 ⟨rfl, hb2⟩; obtain ⟨hc2, hf2, hz2, hd2⟩ := bcell hb2; (try simp at hz2); replace hb2 := Below.via (B := w.heap.size) (a := w) (by (first | (go_grown; done) | (refine below_drewN ?_ _; go_grown; done) | (refine Below.drew (below_drewN ?_ _); go_grown; done))) hb2 (by go_size); (try have hy2 : w.heap.size < w2.heap.size := by omega); (try have hyy2 : w.heap.size + 1 < w2.heap.size := by omega)) | (go_at_call 37; refine (l1In_any _ _ _ _).mono ?_; rintro e w' ⟨rfl, rfl⟩))
  go_ret
  exact ⟨rfl, by go_grown⟩
theorem iIsMask_mx {R C k : Nat} (h : Mx R C k) (d : Bool) (x : Int) (w : World) : Calls Try.prog 21 #[.agg #[.int .i64 R, .int .i64 C, .bool d], .int .i64 x] w fun e w' => e = .returned (.bool (inB 0 ((2 : Int) ^ k - 1) x)) ∧ Below w.heap.size w w' := by
  have Hs := iIsMatrix_any R C d
  rw [h.is] at Hs
  have H := hid Hs; clear Hs
  have Hk := hid (iKeyCount_yes h d)
  have k24 := h.k24
  obtain ⟨p1, p2⟩ := pow_rng k24.1
  have hs := shl_one k (by omega)
  by_cases h0 : 0 ≤ x
  · go_enter Try.func21, Try.ntmps21
    go_wp2_with (first | (go_at_call 17; refine (H.out _).mono ?_; rintro e w1 ⟨rfl, hb1⟩; obtain ⟨hc1, hf1, hz1, hd1⟩ := bcell hb1; (try simp at hz1); replace hb1 := Below.via (B := w.heap.size) (a := w) (by (first | (go_grown; done) | (refine below_drewN ?_ _; go_grown; done) | (refine Below.drew (below_drewN ?_ _); go_grown; done))) hb1 (by go_size); (try have hy1 : w.heap.size < w1.heap.size := by omega); (try have hyy1 : w.heap.size + 1 < w1.heap.size := by omega)) | (go_at_call 19; refine (Hk.out _).mono ?_; rintro e w2 ⟨rfl, hb2⟩; obtain ⟨hc2, hf2, hz2, hd2⟩ := bcell hb2; (try simp at hz2); replace hb2 := Below.via (B := w.heap.size) (a := w) (by (first | (go_grown; done) | (refine below_drewN ?_ _; go_grown; done) | (refine Below.drew (below_drewN ?_ _); go_grown; done))) hb2 (by go_size); (try have hy2 : w.heap.size < w2.heap.size := by omega); (try have hyy2 : w.heap.size + 1 < w2.heap.size := by omega)))
    go_ret
    exact ⟨ret_bool (by unfold inB; rw [Bool.eq_iff_iff]; simp; omega), by go_grown⟩
  · go_enter Try.func21, Try.ntmps21
    go_wp2_with (first | (go_at_call 17; refine (H.out _).mono ?_; rintro e w1 ⟨rfl, hb1⟩; obtain ⟨hc1, hf1, hz1, hd1⟩ := bcell hb1; (try simp at hz1); replace hb1 := Below.via (B := w.heap.size) (a := w) (by (first | (go_grown; done) | (refine below_drewN ?_ _; go_grown; done) | (refine Below.drew (below_drewN ?_ _); go_grown; done))) hb1 (by go_size); (try have hy1 : w.heap.size < w1.heap.size := by omega); (try have hyy1 : w.heap.size + 1 < w1.heap.size := by omega)) | (go_at_call 19; refine (Hk.out _).mono ?_; rintro e w2 ⟨rfl, hb2⟩; obtain ⟨hc2, hf2, hz2, hd2⟩ := bcell hb2; (try simp at hz2); replace hb2 := Below.via (B := w.heap.size) (a := w) (by (first | (go_grown; done) | (refine below_drewN ?_ _; go_grown; done) | (refine Below.drew (below_drewN ?_ _); go_grown; done))) hb2 (by go_size); (try have hy2 : w.heap.size < w2.heap.size := by omega); (try have hyy2 : w.heap.size + 1 < w2.heap.size := by omega)))
    go_ret
    exact ⟨ret_bool (by unfold inB; rw [Bool.eq_iff_iff]; simp; omega), by go_grown⟩
theorem sIsMask_no {r c : Int} (h : isMx r c = false) (d : Bool) (x : Int) (w : World) : Calls Try.prog 20 #[.agg #[.int .i64 r, .int .i64 c, .bool d], .int .i64 x] w fun e w' => e = .returned (.bool false) ∧ Below w.heap.size w w' := by
  have Hs := sIsMatrix_any r c d
  rw [h] at Hs
  have H := hid Hs; clear Hs; clear h
  go_enter Try.func20, Try.ntmps20
  go_wp2_with (go_at_call 15; refine (H.out _).mono ?_; rintro e w1 ⟨rfl, hb1⟩; obtain ⟨hc1, hf1, hz1, hd1⟩ := bcell hb1; (try simp at hz1); replace hb1 := Below.via (B := w.heap.size) (a := w) (by (first | (go_grown; done) | (refine below_drewN ?_ _; go_grown; done) | (refine Below.drew (below_drewN ?_ _); go_grown; done))) hb1 (by go_size); (try have hy1 : w.heap.size < w1.heap.size := by omega); (try have hyy1 : w.heap.size + 1 < w1.heap.size := by omega))
  go_ret
  exact ⟨rfl, by go_grown⟩
theorem iIsMask_no {r c : Int} (h : isMx r c = false) (d : Bool) (x : Int) (w : World) : Calls Try.prog 21 #[.agg #[.int .i64 r, .int .i64 c, .bool d], .int .i64 x] w fun e w' => e = .returned (.bool false) ∧ Below w.heap.size w w' := by
  have Hs := iIsMatrix_any r c d
  rw [h] at Hs
  have H := hid Hs; clear Hs; clear h
  go_enter Try.func21, Try.ntmps21
  go_wp2_with (go_at_call 17; refine (H.out _).mono ?_; rintro e w1 ⟨rfl, hb1⟩; obtain ⟨hc1, hf1, hz1, hd1⟩ := bcell hb1; (try simp at hz1); replace hb1 := Below.via (B := w.heap.size) (a := w) (by (first | (go_grown; done) | (refine below_drewN ?_ _; go_grown; done) | (refine Below.drew (below_drewN ?_ _); go_grown; done))) hb1 (by go_size); (try have hy1 : w.heap.size < w1.heap.size := by omega); (try have hyy1 : w.heap.size + 1 < w1.heap.size := by omega))
  go_ret
  exact ⟨rfl, by go_grown⟩
/-- A mask of a valid matrix: one word for both programs. -/
def isMk (r c x : Int) : Bool := isMx r c && inB 0 ((2 : Int) ^ (r * c).toNat - 1) x
theorem isMk_mx {R C k : Nat} (h : Mx R C k) (x : Int) : isMk R C x = inB 0 ((2 : Int) ^ k - 1) x := by
  unfold isMk
  rw [h.is, h.k, Bool.true_and]
  have : ((R : Int) * C).toNat = R * C := by
    have e1 : ((R : Int) * C) = ((R * C : Nat) : Int) := by simp
    rw [e1]; exact Int.toNat_natCast _
  rw [this]
theorem sIsMask_any (r c : Int) (d : Bool) (x : Int) (w : World) : Calls Try.prog 20 #[.agg #[.int .i64 r, .int .i64 c, .bool d], .int .i64 x] w fun e w' => e = .returned (.bool (isMk r c x)) ∧ Below w.heap.size w w' := by
  cases h : isMx r c with
  | true =>
    obtain ⟨R, C, k, rfl, rfl, hm⟩ := mx_of h
    rw [isMk_mx hm]; exact sIsMask_mx hm d x w
  | false =>
    have : isMk r c x = false := by unfold isMk; rw [h]; rfl
    rw [this]; exact sIsMask_no h d x w
theorem iIsMask_any (r c : Int) (d : Bool) (x : Int) (w : World) : Calls Try.prog 21 #[.agg #[.int .i64 r, .int .i64 c, .bool d], .int .i64 x] w fun e w' => e = .returned (.bool (isMk r c x)) ∧ Below w.heap.size w w' := by
  cases h : isMx r c with
  | true =>
    obtain ⟨R, C, k, rfl, rfl, hm⟩ := mx_of h
    rw [isMk_mx hm]; exact iIsMask_mx hm d x w
  | false =>
    have : isMk r c x = false := by unfold isMk; rw [h]; rfl
    rw [this]; exact iIsMask_no h d x w
/-- The number of keys: one word for both programs. -/
def kc (r c : Int) : Int := if isMx r c then r * c else 0
theorem kc_mx {R C k : Nat} (h : Mx R C k) : kc R C = k := by unfold kc; rw [h.is, h.k]; simp
theorem sKeyCount_any (r c : Int) (d : Bool) (w : World) : Calls Try.prog 18 #[.agg #[.int .i64 r, .int .i64 c, .bool d]] w fun e w' => e = .returned (.int .i64 (kc r c)) ∧ Below w.heap.size w w' := by
  cases h : isMx r c with
  | true =>
    obtain ⟨R, C, k, rfl, rfl, hm⟩ := mx_of h
    rw [kc_mx hm]; exact sKeyCount_yes hm d w
  | false =>
    have : kc r c = 0 := by unfold kc; rw [h]; rfl
    rw [this]; exact sKeyCount_no h d w
theorem iKeyCount_any (r c : Int) (d : Bool) (w : World) : Calls Try.prog 19 #[.agg #[.int .i64 r, .int .i64 c, .bool d]] w fun e w' => e = .returned (.int .i64 (kc r c)) ∧ Below w.heap.size w w' := by
  cases h : isMx r c with
  | true =>
    obtain ⟨R, C, k, rfl, rfl, hm⟩ := mx_of h
    rw [kc_mx hm]; exact iKeyCount_yes hm d w
  | false =>
    have : kc r c = 0 := by unfold kc; rw [h]; rfl
    rw [this]; exact iKeyCount_no h d w
theorem toMatrix_any (r c : Int) (d : Bool) (w : World) : Calls Try.prog 16 #[.agg #[.int .i64 r, .int .i64 c, .bool d]] w fun e w' => e = .returned (.agg #[.int .i64 r, .int .i64 c, .bool d]) ∧ Below w.heap.size w w' := by
  go_enter Try.func16, Try.ntmps16
  go_wp2
  go_returns
  exact ⟨rfl, by go_grown⟩
end Go.Proofs.Ytmhpepicmnjmgaa
