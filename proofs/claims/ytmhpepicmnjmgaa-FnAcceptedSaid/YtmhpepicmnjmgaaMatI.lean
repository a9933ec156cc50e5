/- Accepting, by its contract in both programs, and the walks of the laws on single functions of readings. Conditions: none. -/
import Derived.Test.YtmhpepicmnjmgaaMatH
namespace Go.Proofs.Ytmhpepicmnjmgaa
open Go.RowKit
set_option linter.unusedVariables false

def accOk (r c : Int) (d : Bool) (o x : Int) : Bool := isMk r c o && isRd r c d x
def accV (r c : Int) (d : Bool) (o x : Int) : Int := if accOk r c d o x then ((x.toNat &&& (o.toNat ||| MM.clr d r.toNat c.toNat x.toNat (r.toNat * c.toNat)) : Nat) : Int) else 0
theorem acc_no {r c o x : Int} {d : Bool} (h : accOk r c d o x = false) : accV r c d o x = 0 := by unfold accV; rw [h]; rfl
theorem mk_same {R C k : Nat} {o : Int} (h : Mx R C k) (ho : isMk R C o = true) : ∃ O : Nat, o = O ∧ O < 2 ^ k := by
  obtain ⟨R', C', k', O, e1, e2, e3, h', hO⟩ := mk_of ho
  have : k' = k := by rw [h.k, h'.k]; congr 1 <;> omega
  subst this
  exact ⟨O, e3, hO⟩
theorem accV_mx {R C k X O : Nat} {d : Bool} (h : Mx R C k) (hX : X < 2 ^ k) (hr : MM.rd d R C X = X) (hO : O < 2 ^ k) : accOk R C d O X = true ∧ accV R C d O X = ((X &&& (O ||| MM.clr d R C X k) : Nat) : Int) := by
  have h1 : accOk R C d O X = true := by unfold accOk; rw [mk_yes h hO, rd_yes h hX hr]; rfl
  refine ⟨h1, ?_⟩
  unfold accV; rw [h1, h.k]; simp
theorem acc_facts {R C k X O : Nat} (d : Bool) (h : Mx R C k) (hX : X < 2 ^ k) (hO : O < 2 ^ k) :
    bits .or .i64 (O : Int) ((MM.clr d R C X k : Nat) : Int) = ((O ||| MM.clr d R C X k : Nat) : Int) ∧ bits .and .i64 (X : Int) ((O ||| MM.clr d R C X k : Nat) : Int) = ((X &&& (O ||| MM.clr d R C X k) : Nat) : Int) := by
  have h1 := x24 h (MM.clr_lt (D := d) (R := R) (C := C) hX k (Nat.le_refl _))
  have h2 := x24 h hX
  have h3 := x24 h hO
  have h4 : O ||| MM.clr d R C X k < 2 ^ k := Nat.or_lt_two_pow hO (MM.clr_lt hX k (Nat.le_refl _))
  have h5 := x24 h h4
  exact ⟨i64_or_nat _ _ (by omega) (by omega), i64_and_nat _ _ (by omega) (by omega)⟩

theorem iAcceptReading_any (r c : Int) (d : Bool) (o x : Int) (w : World) : Calls Try.prog 36 #[.agg #[.int .i64 r, .int .i64 c, .bool d], .int .i64 o, .int .i64 x] w fun e w' => e = .returned (.tuple #[.int .i64 (accV r c d o x), .bool (accOk r c d o x)]) ∧ Below w.heap.size w w' := by
  have H0 := iIsMask_any r c d o
  have H1 := iIsReading_any r c d x
  have H2 := iClearKeys_any r c d x
  cases h0 : isMk r c o with
  | false =>
    have hn : accOk r c d o x = false := by unfold accOk; rw [h0]; rfl
    rw [acc_no hn, hn]
    rw [h0] at H0
    have H0 := hid H0
    clear h0 hn H1 H2
    go_enter Try.func36, Try.ntmps36
    go_wp2_with (go_at_call 21; (with_reducible refine (H0.out _).mono ?_); rintro e w1 ⟨rfl, hb1⟩; obtain ⟨hc1, hf1, hz1, hd1⟩ := bcell hb1; (try simp at hz1); replace hb1 := Below.via (B := w.heap.size) (a := w) (by (first | (go_grown; done) | (refine below_drewN ?_ _; go_grown; done) | (refine Below.drew (below_drewN ?_ _); go_grown; done))) hb1 (by go_size); (try have hy1 : w.heap.size < w1.heap.size := by omega); (try have hyy1 : w.heap.size + 1 < w1.heap.size := by omega))
    go_ret2
    exact ⟨rfl, by (first | (go_grown; done) | (refine below_drewN ?_ _; go_grown; done) | (refine Below.drew (below_drewN ?_ _); go_grown; done))⟩
  | true =>
    rw [h0] at H0
    cases h1 : isRd r c d x with
    | false =>
      have hn : accOk r c d o x = false := by unfold accOk; rw [h1]; simp
      rw [acc_no hn, hn]
      rw [h1] at H1
      have H0 := hid H0
      have H1 := hid H1
      clear h0 h1 hn H2
      go_enter Try.func36, Try.ntmps36
      go_wp2_with (first | (go_at_call 21; (with_reducible refine (H0.out _).mono ?_); rintro e w1 ⟨rfl, hb1⟩; obtain ⟨hc1, hf1, hz1, hd1⟩ := bcell hb1; (try simp at hz1); replace hb1 := Below.via (B := w.heap.size) (a := w) (by (first | (go_grown; done) | (refine below_drewN ?_ _; go_grown; done) | (refine Below.drew (below_drewN ?_ _); go_grown; done))) hb1 (by go_size); (try have hy1 : w.heap.size < w1.heap.size := by omega); (try have hyy1 : w.heap.size + 1 < w1.heap.size := by omega)) | (go_at_call 28; (with_reducible refine (H1.out _).mono ?_); rintro e w2 ⟨rfl, hb2⟩; obtain ⟨hc2, hf2, hz2, hd2⟩ := bcell hb2; (try simp at hz2); replace hb2 := Below.via (B := w.heap.size) (a := w) (by (first | (go_grown; done) | (refine below_drewN ?_ _; go_grown; done) | (refine Below.drew (below_drewN ?_ _); go_grown; done))) hb2 (by go_size); (try have hy2 : w.heap.size < w2.heap.size := by omega); (try have hyy2 : w.heap.size + 1 < w2.heap.size := by omega)))
      go_ret2
      exact ⟨rfl, by (first | (go_grown; done) | (refine below_drewN ?_ _; go_grown; done) | (refine Below.drew (below_drewN ?_ _); go_grown; done))⟩
    | true =>
      rw [h1] at H1
      obtain ⟨R, C, k, X, rfl, rfl, rfl, hm, hX, hr⟩ := rd_of h1
      obtain ⟨O, rfl, hO⟩ := mk_same hm h0
      obtain ⟨a1, a2⟩ := accV_mx hm hX hr hO
      rw [a1, a2]
      rw [clrI_mx hm hX hr] at H2
      obtain ⟨f1, f2⟩ := acc_facts d hm hX hO
      have H0 := hid H0
      have H1 := hid H1
      have H2 := hid H2
      clear h0 h1 hm hX hr hO a1 a2
      generalize MM.clr d R C X k = cl at *
      generalize O ||| cl = oc at *
      generalize X &&& oc = xo at *
      go_enter Try.func36, Try.ntmps36
      go_wp2_with (first | (go_at_call 21; (with_reducible refine (H0.out _).mono ?_); rintro e w1 ⟨rfl, hb1⟩; obtain ⟨hc1, hf1, hz1, hd1⟩ := bcell hb1; (try simp at hz1); replace hb1 := Below.via (B := w.heap.size) (a := w) (by (first | (go_grown; done) | (refine below_drewN ?_ _; go_grown; done) | (refine Below.drew (below_drewN ?_ _); go_grown; done))) hb1 (by go_size); (try have hy1 : w.heap.size < w1.heap.size := by omega); (try have hyy1 : w.heap.size + 1 < w1.heap.size := by omega)) | (go_at_call 28; (with_reducible refine (H1.out _).mono ?_); rintro e w2 ⟨rfl, hb2⟩; obtain ⟨hc2, hf2, hz2, hd2⟩ := bcell hb2; (try simp at hz2); replace hb2 := Below.via (B := w.heap.size) (a := w) (by (first | (go_grown; done) | (refine below_drewN ?_ _; go_grown; done) | (refine Below.drew (below_drewN ?_ _); go_grown; done))) hb2 (by go_size); (try have hy2 : w.heap.size < w2.heap.size := by omega); (try have hyy2 : w.heap.size + 1 < w2.heap.size := by omega)) | (go_at_call 25; (with_reducible refine (H2.out _).mono ?_); rintro e w3 ⟨rfl, hb3⟩; obtain ⟨hc3, hf3, hz3, hd3⟩ := bcell hb3; (try simp at hz3); replace hb3 := Below.via (B := w.heap.size) (a := w) (by (first | (go_grown; done) | (refine below_drewN ?_ _; go_grown; done) | (refine Below.drew (below_drewN ?_ _); go_grown; done))) hb3 (by go_size); (try have hy3 : w.heap.size < w3.heap.size := by omega); (try have hyy3 : w.heap.size + 1 < w3.heap.size := by omega)))
      go_ret2
      exact ⟨rfl, by (first | (go_grown; done) | (refine below_drewN ?_ _; go_grown; done) | (refine Below.drew (below_drewN ?_ _); go_grown; done))⟩

theorem sAcceptReading_any (r c : Int) (d : Bool) (o x : Int) (w : World) : Calls Try.prog 35 #[.agg #[.int .i64 r, .int .i64 c, .bool d], .int .i64 o, .int .i64 x] w fun e w' => e = .returned (.tuple #[.int .i64 (accV r c d o x), .bool (accOk r c d o x)]) ∧ Below w.heap.size w w' := by
  have H0 := sIsMask_any r c d o
  have H1 := sIsReading_any r c d x
  have H2 := sClearKeys_any r c d x
  cases h0 : isMk r c o with
  | false =>
    have hn : accOk r c d o x = false := by unfold accOk; rw [h0]; rfl
    rw [acc_no hn, hn]
    rw [h0] at H0
    have H0 := hid H0
    clear h0 hn H1 H2
    go_enter Try.func35, Try.ntmps35
    go_wp2_with (go_at_call 20; (with_reducible refine (H0.out _).mono ?_); rintro e w1 ⟨rfl, hb1⟩; obtain ⟨hc1, hf1, hz1, hd1⟩ := bcell hb1; (try simp at hz1); replace hb1 := Below.via (B := w.heap.size) (a := w) (by (first | (go_grown; done) | (refine below_drewN ?_ _; go_grown; done) | (refine Below.drew (below_drewN ?_ _); go_grown; done))) hb1 (by go_size); (try have hy1 : w.heap.size < w1.heap.size := by omega); (try have hyy1 : w.heap.size + 1 < w1.heap.size := by omega))
    go_ret2
    exact ⟨rfl, by (first | (go_grown; done) | (refine below_drewN ?_ _; go_grown; done) | (refine Below.drew (below_drewN ?_ _); go_grown; done))⟩
  | true =>
    rw [h0] at H0
    cases h1 : isRd r c d x with
    | false =>
      have hn : accOk r c d o x = false := by unfold accOk; rw [h1]; simp
      rw [acc_no hn, hn]
      rw [h1] at H1
      have H0 := hid H0
      have H1 := hid H1
      clear h0 h1 hn H2
      go_enter Try.func35, Try.ntmps35
      go_wp2_with (first | (go_at_call 20; (with_reducible refine (H0.out _).mono ?_); rintro e w1 ⟨rfl, hb1⟩; obtain ⟨hc1, hf1, hz1, hd1⟩ := bcell hb1; (try simp at hz1); replace hb1 := Below.via (B := w.heap.size) (a := w) (by (first | (go_grown; done) | (refine below_drewN ?_ _; go_grown; done) | (refine Below.drew (below_drewN ?_ _); go_grown; done))) hb1 (by go_size); (try have hy1 : w.heap.size < w1.heap.size := by omega); (try have hyy1 : w.heap.size + 1 < w1.heap.size := by omega)) | (go_at_call 27; (with_reducible refine (H1.out _).mono ?_); rintro e w2 ⟨rfl, hb2⟩; obtain ⟨hc2, hf2, hz2, hd2⟩ := bcell hb2; (try simp at hz2); replace hb2 := Below.via (B := w.heap.size) (a := w) (by (first | (go_grown; done) | (refine below_drewN ?_ _; go_grown; done) | (refine Below.drew (below_drewN ?_ _); go_grown; done))) hb2 (by go_size); (try have hy2 : w.heap.size < w2.heap.size := by omega); (try have hyy2 : w.heap.size + 1 < w2.heap.size := by omega)))
      go_ret2
      exact ⟨rfl, by (first | (go_grown; done) | (refine below_drewN ?_ _; go_grown; done) | (refine Below.drew (below_drewN ?_ _); go_grown; done))⟩
    | true =>
      rw [h1] at H1
      obtain ⟨R, C, k, X, rfl, rfl, rfl, hm, hX, hr⟩ := rd_of h1
      obtain ⟨O, rfl, hO⟩ := mk_same hm h0
      obtain ⟨a1, a2⟩ := accV_mx hm hX hr hO
      rw [a1, a2]
      rw [clrI_mx hm hX hr] at H2
      obtain ⟨f1, f2⟩ := acc_facts d hm hX hO
      have H0 := hid H0
      have H1 := hid H1
      have H2 := hid H2
      clear h0 h1 hm hX hr hO a1 a2
      generalize MM.clr d R C X k = cl at *
      generalize O ||| cl = oc at *
      generalize X &&& oc = xo at *
      go_enter Try.func35, Try.ntmps35
      go_wp2_with (first | (go_at_call 20; (with_reducible refine (H0.out _).mono ?_); rintro e w1 ⟨rfl, hb1⟩; obtain ⟨hc1, hf1, hz1, hd1⟩ := bcell hb1; (try simp at hz1); replace hb1 := Below.via (B := w.heap.size) (a := w) (by (first | (go_grown; done) | (refine below_drewN ?_ _; go_grown; done) | (refine Below.drew (below_drewN ?_ _); go_grown; done))) hb1 (by go_size); (try have hy1 : w.heap.size < w1.heap.size := by omega); (try have hyy1 : w.heap.size + 1 < w1.heap.size := by omega)) | (go_at_call 27; (with_reducible refine (H1.out _).mono ?_); rintro e w2 ⟨rfl, hb2⟩; obtain ⟨hc2, hf2, hz2, hd2⟩ := bcell hb2; (try simp at hz2); replace hb2 := Below.via (B := w.heap.size) (a := w) (by (first | (go_grown; done) | (refine below_drewN ?_ _; go_grown; done) | (refine Below.drew (below_drewN ?_ _); go_grown; done))) hb2 (by go_size); (try have hy2 : w.heap.size < w2.heap.size := by omega); (try have hyy2 : w.heap.size + 1 < w2.heap.size := by omega)) | (go_at_call 33; (with_reducible refine (H2.out _).mono ?_); rintro e w3 ⟨rfl, hb3⟩; obtain ⟨hc3, hf3, hz3, hd3⟩ := bcell hb3; (try simp at hz3); replace hb3 := Below.via (B := w.heap.size) (a := w) (by (first | (go_grown; done) | (refine below_drewN ?_ _; go_grown; done) | (refine Below.drew (below_drewN ?_ _); go_grown; done))) hb3 (by go_size); (try have hy3 : w.heap.size < w3.heap.size := by omega); (try have hyy3 : w.heap.size + 1 < w3.heap.size := by omega)))
      go_ret2
      exact ⟨rfl, by (first | (go_grown; done) | (refine below_drewN ?_ _; go_grown; done) | (refine Below.drew (below_drewN ?_ _); go_grown; done))⟩

theorem walk_FnExactIsReading (r c : Int) (d : Bool) (_ : (Lit.int .i64 r).wf = true) (_ : (Lit.int .i64 c).wf = true) (x : Int) (_ : (Lit.int .i64 x).wf = true) (w : World) : Calls Try.prog 7 #[.agg #[.int .i64 r, .int .i64 c, .bool d], .int .i64 x] w fun e w' => e = .returned (.bool true) ∧ Below w.heap.size w w' := by
  have H0 := hid (toMatrix_any r c d)
  have H1 := hid (sIsReading_any r c d x)
  have H2 := hid (iIsReading_any r c d x)
  go_enter Try.func7, Try.ntmps7
  go_wp2_with (first | (go_at_call 16; (with_reducible refine (H0.out _).mono ?_); rintro e w1 ⟨rfl, hb1⟩; obtain ⟨hc1, hf1, hz1, hd1⟩ := bcell hb1; (try simp at hz1); replace hb1 := Below.via (B := w.heap.size) (a := w) (by (first | (go_grown; done) | (refine below_drewN ?_ _; go_grown; done) | (refine Below.drew (below_drewN ?_ _); go_grown; done))) hb1 (by go_size); (try have hy1 : w.heap.size < w1.heap.size := by omega); (try have hyy1 : w.heap.size + 1 < w1.heap.size := by omega)) | (go_at_call 27; (with_reducible refine (H1.out _).mono ?_); rintro e w2 ⟨rfl, hb2⟩; obtain ⟨hc2, hf2, hz2, hd2⟩ := bcell hb2; (try simp at hz2); replace hb2 := Below.via (B := w.heap.size) (a := w) (by (first | (go_grown; done) | (refine below_drewN ?_ _; go_grown; done) | (refine Below.drew (below_drewN ?_ _); go_grown; done))) hb2 (by go_size); (try have hy2 : w.heap.size < w2.heap.size := by omega); (try have hyy2 : w.heap.size + 1 < w2.heap.size := by omega)) | (go_at_call 28; (with_reducible refine (H2.out _).mono ?_); rintro e w3 ⟨rfl, hb3⟩; obtain ⟨hc3, hf3, hz3, hd3⟩ := bcell hb3; (try simp at hz3); replace hb3 := Below.via (B := w.heap.size) (a := w) (by (first | (go_grown; done) | (refine below_drewN ?_ _; go_grown; done) | (refine Below.drew (below_drewN ?_ _); go_grown; done))) hb3 (by go_size); (try have hy3 : w.heap.size < w3.heap.size := by omega); (try have hyy3 : w.heap.size + 1 < w3.heap.size := by omega)))
  go_ret
  exact ⟨rfl, by (first | (go_grown; done) | (refine below_drewN ?_ _; go_grown; done) | (refine Below.drew (below_drewN ?_ _); go_grown; done))⟩

theorem walk_FnExactReadMatrix (r c : Int) (d : Bool) (_ : (Lit.int .i64 r).wf = true) (_ : (Lit.int .i64 c).wf = true) (x : Int) (_ : (Lit.int .i64 x).wf = true) (w : World) : Calls Try.prog 8 #[.agg #[.int .i64 r, .int .i64 c, .bool d], .int .i64 x] w fun e w' => e = .returned (.bool true) ∧ Below w.heap.size w w' := by
  have H0 := hid (toMatrix_any r c d)
  have H1 := hid (sReadMatrix_any r c d x)
  have H2 := hid (iReadMatrix_any r c d x)
  go_enter Try.func8, Try.ntmps8
  go_wp2_with (first | (go_at_call 16; (with_reducible refine (H0.out _).mono ?_); rintro e w1 ⟨rfl, hb1⟩; obtain ⟨hc1, hf1, hz1, hd1⟩ := bcell hb1; (try simp at hz1); replace hb1 := Below.via (B := w.heap.size) (a := w) (by (first | (go_grown; done) | (refine below_drewN ?_ _; go_grown; done) | (refine Below.drew (below_drewN ?_ _); go_grown; done))) hb1 (by go_size); (try have hy1 : w.heap.size < w1.heap.size := by omega); (try have hyy1 : w.heap.size + 1 < w1.heap.size := by omega)) | (go_at_call 29; (with_reducible refine (H1.out _).mono ?_); rintro e w2 ⟨rfl, hb2⟩; obtain ⟨hc2, hf2, hz2, hd2⟩ := bcell hb2; (try simp at hz2); replace hb2 := Below.via (B := w.heap.size) (a := w) (by (first | (go_grown; done) | (refine below_drewN ?_ _; go_grown; done) | (refine Below.drew (below_drewN ?_ _); go_grown; done))) hb2 (by go_size); (try have hy2 : w.heap.size < w2.heap.size := by omega); (try have hyy2 : w.heap.size + 1 < w2.heap.size := by omega)) | (go_at_call 24; (with_reducible refine (H2.out _).mono ?_); rintro e w3 ⟨rfl, hb3⟩; obtain ⟨hc3, hf3, hz3, hd3⟩ := bcell hb3; (try simp at hz3); replace hb3 := Below.via (B := w.heap.size) (a := w) (by (first | (go_grown; done) | (refine below_drewN ?_ _; go_grown; done) | (refine Below.drew (below_drewN ?_ _); go_grown; done))) hb3 (by go_size); (try have hy3 : w.heap.size < w3.heap.size := by omega); (try have hyy3 : w.heap.size + 1 < w3.heap.size := by omega)))
  go_ret
  exact ⟨rfl, by (first | (go_grown; done) | (refine below_drewN ?_ _; go_grown; done) | (refine Below.drew (below_drewN ?_ _); go_grown; done))⟩

theorem walk_FnExactGhostsOf (r c : Int) (d : Bool) (_ : (Lit.int .i64 r).wf = true) (_ : (Lit.int .i64 c).wf = true) (x : Int) (_ : (Lit.int .i64 x).wf = true) (w : World) : Calls Try.prog 9 #[.agg #[.int .i64 r, .int .i64 c, .bool d], .int .i64 x] w fun e w' => e = .returned (.bool true) ∧ Below w.heap.size w w' := by
  have H0 := hid (toMatrix_any r c d)
  have H1 := hid (sGhostsOf_any r c d x)
  have H2 := hid (iGhostsOf_any r c d x)
  go_enter Try.func9, Try.ntmps9
  go_wp2_with (first | (go_at_call 16; (with_reducible refine (H0.out _).mono ?_); rintro e w1 ⟨rfl, hb1⟩; obtain ⟨hc1, hf1, hz1, hd1⟩ := bcell hb1; (try simp at hz1); replace hb1 := Below.via (B := w.heap.size) (a := w) (by (first | (go_grown; done) | (refine below_drewN ?_ _; go_grown; done) | (refine Below.drew (below_drewN ?_ _); go_grown; done))) hb1 (by go_size); (try have hy1 : w.heap.size < w1.heap.size := by omega); (try have hyy1 : w.heap.size + 1 < w1.heap.size := by omega)) | (go_at_call 30; (with_reducible refine (H1.out _).mono ?_); rintro e w2 ⟨rfl, hb2⟩; obtain ⟨hc2, hf2, hz2, hd2⟩ := bcell hb2; (try simp at hz2); replace hb2 := Below.via (B := w.heap.size) (a := w) (by (first | (go_grown; done) | (refine below_drewN ?_ _; go_grown; done) | (refine Below.drew (below_drewN ?_ _); go_grown; done))) hb2 (by go_size); (try have hy2 : w.heap.size < w2.heap.size := by omega); (try have hyy2 : w.heap.size + 1 < w2.heap.size := by omega)) | (go_at_call 31; (with_reducible refine (H2.out _).mono ?_); rintro e w3 ⟨rfl, hb3⟩; obtain ⟨hc3, hf3, hz3, hd3⟩ := bcell hb3; (try simp at hz3); replace hb3 := Below.via (B := w.heap.size) (a := w) (by (first | (go_grown; done) | (refine below_drewN ?_ _; go_grown; done) | (refine Below.drew (below_drewN ?_ _); go_grown; done))) hb3 (by go_size); (try have hy3 : w.heap.size < w3.heap.size := by omega); (try have hyy3 : w.heap.size + 1 < w3.heap.size := by omega)))
  go_ret
  exact ⟨rfl, by (first | (go_grown; done) | (refine below_drewN ?_ _; go_grown; done) | (refine Below.drew (below_drewN ?_ _); go_grown; done))⟩

theorem walk_FnExactAlternative (r c : Int) (d : Bool) (_ : (Lit.int .i64 r).wf = true) (_ : (Lit.int .i64 c).wf = true) (x : Int) (_ : (Lit.int .i64 x).wf = true) (y : Int) (_ : (Lit.int .i64 y).wf = true) (w : World) : Calls Try.prog 10 #[.agg #[.int .i64 r, .int .i64 c, .bool d], .int .i64 x, .int .i64 y] w fun e w' => e = .returned (.bool true) ∧ Below w.heap.size w w' := by
  have H0 := hid (toMatrix_any r c d)
  have H1 := hid (sAlternative_any r c d x y)
  have H2 := hid (iAlternative_any r c d x y)
  go_enter Try.func10, Try.ntmps10
  go_wp2_with (first | (go_at_call 16; (with_reducible refine (H0.out _).mono ?_); rintro e w1 ⟨rfl, hb1⟩; obtain ⟨hc1, hf1, hz1, hd1⟩ := bcell hb1; (try simp at hz1); replace hb1 := Below.via (B := w.heap.size) (a := w) (by (first | (go_grown; done) | (refine below_drewN ?_ _; go_grown; done) | (refine Below.drew (below_drewN ?_ _); go_grown; done))) hb1 (by go_size); (try have hy1 : w.heap.size < w1.heap.size := by omega); (try have hyy1 : w.heap.size + 1 < w1.heap.size := by omega)) | (go_at_call 32; (with_reducible refine (H1.out _).mono ?_); rintro e w2 ⟨rfl, hb2⟩; obtain ⟨hc2, hf2, hz2, hd2⟩ := bcell hb2; (try simp at hz2); replace hb2 := Below.via (B := w.heap.size) (a := w) (by (first | (go_grown; done) | (refine below_drewN ?_ _; go_grown; done) | (refine Below.drew (below_drewN ?_ _); go_grown; done))) hb2 (by go_size); (try have hy2 : w.heap.size < w2.heap.size := by omega); (try have hyy2 : w.heap.size + 1 < w2.heap.size := by omega)) | (go_at_call 26; (with_reducible refine (H2.out _).mono ?_); rintro e w3 ⟨rfl, hb3⟩; obtain ⟨hc3, hf3, hz3, hd3⟩ := bcell hb3; (try simp at hz3); replace hb3 := Below.via (B := w.heap.size) (a := w) (by (first | (go_grown; done) | (refine below_drewN ?_ _; go_grown; done) | (refine Below.drew (below_drewN ?_ _); go_grown; done))) hb3 (by go_size); (try have hy3 : w.heap.size < w3.heap.size := by omega); (try have hyy3 : w.heap.size + 1 < w3.heap.size := by omega)))
  go_ret
  exact ⟨rfl, by (first | (go_grown; done) | (refine below_drewN ?_ _; go_grown; done) | (refine Below.drew (below_drewN ?_ _); go_grown; done))⟩

theorem walk_FnExactClearKeys (r c : Int) (d : Bool) (_ : (Lit.int .i64 r).wf = true) (_ : (Lit.int .i64 c).wf = true) (x : Int) (_ : (Lit.int .i64 x).wf = true) (w : World) : Calls Try.prog 11 #[.agg #[.int .i64 r, .int .i64 c, .bool d], .int .i64 x] w fun e w' => e = .returned (.bool true) ∧ Below w.heap.size w w' := by
  have H0 := hid (toMatrix_any r c d)
  have H1 := hid (sClearKeys_any r c d x)
  have H2 := hid (iClearKeys_any r c d x)
  go_enter Try.func11, Try.ntmps11
  go_wp2_with (first | (go_at_call 16; (with_reducible refine (H0.out _).mono ?_); rintro e w1 ⟨rfl, hb1⟩; obtain ⟨hc1, hf1, hz1, hd1⟩ := bcell hb1; (try simp at hz1); replace hb1 := Below.via (B := w.heap.size) (a := w) (by (first | (go_grown; done) | (refine below_drewN ?_ _; go_grown; done) | (refine Below.drew (below_drewN ?_ _); go_grown; done))) hb1 (by go_size); (try have hy1 : w.heap.size < w1.heap.size := by omega); (try have hyy1 : w.heap.size + 1 < w1.heap.size := by omega)) | (go_at_call 33; (with_reducible refine (H1.out _).mono ?_); rintro e w2 ⟨rfl, hb2⟩; obtain ⟨hc2, hf2, hz2, hd2⟩ := bcell hb2; (try simp at hz2); replace hb2 := Below.via (B := w.heap.size) (a := w) (by (first | (go_grown; done) | (refine below_drewN ?_ _; go_grown; done) | (refine Below.drew (below_drewN ?_ _); go_grown; done))) hb2 (by go_size); (try have hy2 : w.heap.size < w2.heap.size := by omega); (try have hyy2 : w.heap.size + 1 < w2.heap.size := by omega)) | (go_at_call 25; (with_reducible refine (H2.out _).mono ?_); rintro e w3 ⟨rfl, hb3⟩; obtain ⟨hc3, hf3, hz3, hd3⟩ := bcell hb3; (try simp at hz3); replace hb3 := Below.via (B := w.heap.size) (a := w) (by (first | (go_grown; done) | (refine below_drewN ?_ _; go_grown; done) | (refine Below.drew (below_drewN ?_ _); go_grown; done))) hb3 (by go_size); (try have hy3 : w.heap.size < w3.heap.size := by omega); (try have hyy3 : w.heap.size + 1 < w3.heap.size := by omega)))
  go_ret
  exact ⟨rfl, by (first | (go_grown; done) | (refine below_drewN ?_ _; go_grown; done) | (refine Below.drew (below_drewN ?_ _); go_grown; done))⟩

theorem walk_FnExactAcceptReading (r c : Int) (d : Bool) (_ : (Lit.int .i64 r).wf = true) (_ : (Lit.int .i64 c).wf = true) (x : Int) (_ : (Lit.int .i64 x).wf = true) (y : Int) (_ : (Lit.int .i64 y).wf = true) (w : World) : Calls Try.prog 13 #[.agg #[.int .i64 r, .int .i64 c, .bool d], .int .i64 x, .int .i64 y] w fun e w' => e = .returned (.bool true) ∧ Below w.heap.size w w' := by
  have H0 := hid (toMatrix_any r c d)
  have H1 := hid (sAcceptReading_any r c d x y)
  have H2 := hid (iAcceptReading_any r c d x y)
  go_enter Try.func13, Try.ntmps13
  go_wp2_with (first | (go_at_call 16; (with_reducible refine (H0.out _).mono ?_); rintro e w1 ⟨rfl, hb1⟩; obtain ⟨hc1, hf1, hz1, hd1⟩ := bcell hb1; (try simp at hz1); replace hb1 := Below.via (B := w.heap.size) (a := w) (by (first | (go_grown; done) | (refine below_drewN ?_ _; go_grown; done) | (refine Below.drew (below_drewN ?_ _); go_grown; done))) hb1 (by go_size); (try have hy1 : w.heap.size < w1.heap.size := by omega); (try have hyy1 : w.heap.size + 1 < w1.heap.size := by omega)) | (go_at_call 35; (with_reducible refine (H1.out _).mono ?_); rintro e w2 ⟨rfl, hb2⟩; obtain ⟨hc2, hf2, hz2, hd2⟩ := bcell hb2; (try simp at hz2); replace hb2 := Below.via (B := w.heap.size) (a := w) (by (first | (go_grown; done) | (refine below_drewN ?_ _; go_grown; done) | (refine Below.drew (below_drewN ?_ _); go_grown; done))) hb2 (by go_size); (try have hy2 : w.heap.size < w2.heap.size := by omega); (try have hyy2 : w.heap.size + 1 < w2.heap.size := by omega)) | (go_at_call 36; (with_reducible refine (H2.out _).mono ?_); rintro e w3 ⟨rfl, hb3⟩; obtain ⟨hc3, hf3, hz3, hd3⟩ := bcell hb3; (try simp at hz3); replace hb3 := Below.via (B := w.heap.size) (a := w) (by (first | (go_grown; done) | (refine below_drewN ?_ _; go_grown; done) | (refine Below.drew (below_drewN ?_ _); go_grown; done))) hb3 (by go_size); (try have hy3 : w.heap.size < w3.heap.size := by omega); (try have hyy3 : w.heap.size + 1 < w3.heap.size := by omega)))
  go_ret
  exact ⟨rfl, by (first | (go_grown; done) | (refine below_drewN ?_ _; go_grown; done) | (refine Below.drew (below_drewN ?_ _); go_grown; done))⟩
end Go.Proofs.Ytmhpepicmnjmgaa
