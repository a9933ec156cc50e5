/- Alternatives, by their contract in both programs. Conditions: none. -/
import Derived.Test.YtmhpepicmnjmgaaMatF
namespace Go.Proofs.Ytmhpepicmnjmgaa
open Go.RowKit
set_option linter.unusedVariables false

def altOk (r c : Int) (d : Bool) (x key : Int) : Bool := isRd r c d x && decide (0 ≤ key) && decide (key < kc r c) && MM.alt d r.toNat c.toNat x.toNat key.toNat
def altV (r c : Int) (d : Bool) (x key : Int) : Int := if altOk r c d x key then ((MM.anot x.toNat (2 ^ key.toNat) : Nat) : Int) else 0
theorem alt_no {r c x key : Int} {d : Bool} (h : altOk r c d x key = false) : altV r c d x key = 0 := by unfold altV; rw [h]; rfl
theorem alt_mx {R C k X K : Nat} {d : Bool} (h : Mx R C k) (hX : X < 2 ^ k) (hr : MM.rd d R C X = X) (hK : K < k) : altOk R C d X K = MM.alt d R C X K := by
  unfold altOk; rw [rd_yes h hX hr, kc_mx h]; simp; omega
theorem altV_mx {R C k X K : Nat} {d : Bool} (h : Mx R C k) (hX : X < 2 ^ k) (hr : MM.rd d R C X = X) (hK : K < k) (ha : MM.alt d R C X K = true) : altV R C d X K = ((MM.anot X (2 ^ K) : Nat) : Int) := by
  unfold altV; rw [alt_mx h hX hr hK, ha]; simp
theorem key_facts {R C k X K : Nat} {d : Bool} (h : Mx R C k) (hX : X < 2 ^ k) (hK : K < k) :
    bits .and .i64 ((X : Int) / 2 ^ K) 1 = (if X.testBit K then 1 else 0) ∧ bits .andNot .i64 (X : Int) ((2 : Int) ^ K) = ((MM.anot X (2 ^ K) : Nat) : Int) ∧ MM.anot X (2 ^ K) < 2 ^ k ∧ IntKind.i64.wrap ((2 : Int) ^ K) = ((2 ^ K : Nat) : Int) := by
  have hx := x24 h hX
  have k24 := h.k24
  have hp : 2 ^ K < 2 ^ 24 := Nat.pow_lt_pow_right (by omega) (by omega)
  have h4 : (2 : Nat) ^ 24 = 16777216 := by decide
  refine ⟨?_, ?_, MM.anot_lt hX, shl_one K (by omega)⟩
  · rw [and_one_shr _ _ ⟨by omega, by omega⟩, tbI_nat]
  · have e : (2 : Int) ^ K = ((2 ^ K : Nat) : Int) := by simp
    rw [e]; exact i64_anot_nat _ _ (by omega) (by omega)

section
variable (r c : Int) (d : Bool) (x key : Int) (w : World)

theorem sAlternative_any : Calls Try.prog 32 #[.agg #[.int .i64 r, .int .i64 c, .bool d], .int .i64 x, .int .i64 key] w fun e w' => e = .returned (.tuple #[.int .i64 (altV r c d x key), .bool (altOk r c d x key)]) ∧ Below w.heap.size w w' := by
  have H0 := sIsReading_any r c d x
  cases h : isRd r c d x with
  | false =>
    rw [h] at H0
    have hr : altOk r c d x key = false := by unfold altOk; rw [h]; rfl
    rw [alt_no hr, hr]
    have H0 := hid H0
    clear h hr
    go_enter Try.func32, Try.ntmps32
    go_wp2_with (go_at_call 27; (with_reducible refine (H0.out _).mono ?_); rintro e w1 ⟨rfl, hb1⟩; obtain ⟨hc1, hf1, hz1, hd1⟩ := bcell hb1; (try simp at hz1); replace hb1 := Below.via (B := w.heap.size) (a := w) (by (first | (go_grown; done) | (refine below_drewN ?_ _; go_grown; done) | (refine Below.drew (below_drewN ?_ _); go_grown; done))) hb1 (by go_size); (try have hy1 : w.heap.size < w1.heap.size := by omega); (try have hyy1 : w.heap.size + 1 < w1.heap.size := by omega))
    go_ret2
    exact ⟨rfl, by (first | (go_grown; done) | (refine below_drewN ?_ _; go_grown; done) | (refine Below.drew (below_drewN ?_ _); go_grown; done))⟩
  | true =>
    rw [h] at H0
    obtain ⟨R, C, k, X, rfl, rfl, rfl, hm, hX, hr⟩ := rd_of h
    have Hk := hid (sKeyCount_yes hm d)
    have H0 := hid H0
    have k24 := hm.k24
    by_cases k0 : 0 ≤ key
    · by_cases k1 : key < k
      · obtain ⟨K, rfl⟩ := Int.eq_ofNat_of_zero_le k0
        have hK : K < k := by omega
        obtain ⟨e1, e2, e3, e4⟩ := key_facts (d := d) hm hX hK
        have H1 := hid (sread_any hm d _ e3)
        have ha := alt_mx (d := d) hm hX hr hK
        cases hb : X.testBit K with
        | false =>
          have hal : MM.alt d R C X K = false := by unfold MM.alt; rw [hb]; rfl
          rw [hal] at ha
          rw [alt_no ha, ha]
          rw [hb] at e1
          have e1 : bits .and .i64 ((X : Int) / 2 ^ K) 1 = 0 := e1
          clear h hm hX hr ha hal hb e2 e3
          go_enter Try.func32, Try.ntmps32
          go_wp2_with (first | (go_at_call 27; (with_reducible refine (H0.out _).mono ?_); rintro e w1 ⟨rfl, hb1⟩; obtain ⟨hc1, hf1, hz1, hd1⟩ := bcell hb1; (try simp at hz1); replace hb1 := Below.via (B := w.heap.size) (a := w) (by (first | (go_grown; done) | (refine below_drewN ?_ _; go_grown; done) | (refine Below.drew (below_drewN ?_ _); go_grown; done))) hb1 (by go_size); (try have hy1 : w.heap.size < w1.heap.size := by omega); (try have hyy1 : w.heap.size + 1 < w1.heap.size := by omega)) | (go_at_call 18; (with_reducible refine (Hk.out _).mono ?_); rintro e w2 ⟨rfl, hb2⟩; obtain ⟨hc2, hf2, hz2, hd2⟩ := bcell hb2; (try simp at hz2); replace hb2 := Below.via (B := w.heap.size) (a := w) (by (first | (go_grown; done) | (refine below_drewN ?_ _; go_grown; done) | (refine Below.drew (below_drewN ?_ _); go_grown; done))) hb2 (by go_size); (try have hy2 : w.heap.size < w2.heap.size := by omega); (try have hyy2 : w.heap.size + 1 < w2.heap.size := by omega)) | (go_at_call 37; (with_reducible refine (l1In_yes _ _ _ (by omega) _).mono ?_); rintro e w' ⟨rfl, rfl⟩))
          go_ret2
          exact ⟨rfl, by (first | (go_grown; done) | (refine below_drewN ?_ _; go_grown; done) | (refine Below.drew (below_drewN ?_ _); go_grown; done))⟩
        | true =>
          rw [hb] at e1
          have e1 : bits .and .i64 ((X : Int) / 2 ^ K) 1 = 1 := e1
          have hal : MM.alt d R C X K = decide (MM.rd d R C (MM.anot X (2 ^ K)) = X) := by unfold MM.alt; rw [hb]; rfl
          by_cases hY : MM.rd d R C (MM.anot X (2 ^ K)) = X
          · have hal' : MM.alt d R C X K = true := by rw [hal, hY]; simp
            rw [altV_mx hm hX hr hK hal', ha, hal']
            rw [hY] at H1
            clear h hm hX hr ha hal hal' hb e3 hY
            generalize MM.anot X (2 ^ K) = L at *
            go_enter Try.func32, Try.ntmps32
            go_wp2_with (first | (go_at_call 27; (with_reducible refine (H0.out _).mono ?_); rintro e w1 ⟨rfl, hb1⟩; obtain ⟨hc1, hf1, hz1, hd1⟩ := bcell hb1; (try simp at hz1); replace hb1 := Below.via (B := w.heap.size) (a := w) (by (first | (go_grown; done) | (refine below_drewN ?_ _; go_grown; done) | (refine Below.drew (below_drewN ?_ _); go_grown; done))) hb1 (by go_size); (try have hy1 : w.heap.size < w1.heap.size := by omega); (try have hyy1 : w.heap.size + 1 < w1.heap.size := by omega)) | (go_at_call 18; (with_reducible refine (Hk.out _).mono ?_); rintro e w2 ⟨rfl, hb2⟩; obtain ⟨hc2, hf2, hz2, hd2⟩ := bcell hb2; (try simp at hz2); replace hb2 := Below.via (B := w.heap.size) (a := w) (by (first | (go_grown; done) | (refine below_drewN ?_ _; go_grown; done) | (refine Below.drew (below_drewN ?_ _); go_grown; done))) hb2 (by go_size); (try have hy2 : w.heap.size < w2.heap.size := by omega); (try have hyy2 : w.heap.size + 1 < w2.heap.size := by omega)) | (go_at_call 37; (with_reducible refine (l1In_yes _ _ _ (by omega) _).mono ?_); rintro e w' ⟨rfl, rfl⟩) | (go_at_call 42; (with_reducible refine (H1.out _).mono ?_); rintro e w3 ⟨rfl, hb3⟩; obtain ⟨hc3, hf3, hz3, hd3⟩ := bcell hb3; (try simp at hz3); replace hb3 := Below.via (B := w.heap.size) (a := w) (by (first | (go_grown; done) | (refine below_drewN ?_ _; go_grown; done) | (refine Below.drew (below_drewN ?_ _); go_grown; done))) hb3 (by go_size); (try have hy3 : w.heap.size < w3.heap.size := by omega); (try have hyy3 : w.heap.size + 1 < w3.heap.size := by omega)))
            go_ret2
            exact ⟨rfl, by (first | (go_grown; done) | (refine below_drewN ?_ _; go_grown; done) | (refine Below.drew (below_drewN ?_ _); go_grown; done))⟩
          · have hal' : MM.alt d R C X K = false := by rw [hal]; simp [hY]
            rw [hal'] at ha
            rw [alt_no ha, ha]
            clear h hm hX hr ha hal hal' hb e3
            generalize MM.rd d R C (MM.anot X (2 ^ K)) = Y at *
            generalize MM.anot X (2 ^ K) = L at *
            have e5 : ((Y : Int) != (X : Int)) = true := by simp; omega
            clear hY
            go_enter Try.func32, Try.ntmps32
            go_wp2_with (first | (go_at_call 27; (with_reducible refine (H0.out _).mono ?_); rintro e w1 ⟨rfl, hb1⟩; obtain ⟨hc1, hf1, hz1, hd1⟩ := bcell hb1; (try simp at hz1); replace hb1 := Below.via (B := w.heap.size) (a := w) (by (first | (go_grown; done) | (refine below_drewN ?_ _; go_grown; done) | (refine Below.drew (below_drewN ?_ _); go_grown; done))) hb1 (by go_size); (try have hy1 : w.heap.size < w1.heap.size := by omega); (try have hyy1 : w.heap.size + 1 < w1.heap.size := by omega)) | (go_at_call 18; (with_reducible refine (Hk.out _).mono ?_); rintro e w2 ⟨rfl, hb2⟩; obtain ⟨hc2, hf2, hz2, hd2⟩ := bcell hb2; (try simp at hz2); replace hb2 := Below.via (B := w.heap.size) (a := w) (by (first | (go_grown; done) | (refine below_drewN ?_ _; go_grown; done) | (refine Below.drew (below_drewN ?_ _); go_grown; done))) hb2 (by go_size); (try have hy2 : w.heap.size < w2.heap.size := by omega); (try have hyy2 : w.heap.size + 1 < w2.heap.size := by omega)) | (go_at_call 37; (with_reducible refine (l1In_yes _ _ _ (by omega) _).mono ?_); rintro e w' ⟨rfl, rfl⟩) | (go_at_call 42; (with_reducible refine (H1.out _).mono ?_); rintro e w3 ⟨rfl, hb3⟩; obtain ⟨hc3, hf3, hz3, hd3⟩ := bcell hb3; (try simp at hz3); replace hb3 := Below.via (B := w.heap.size) (a := w) (by (first | (go_grown; done) | (refine below_drewN ?_ _; go_grown; done) | (refine Below.drew (below_drewN ?_ _); go_grown; done))) hb3 (by go_size); (try have hy3 : w.heap.size < w3.heap.size := by omega); (try have hyy3 : w.heap.size + 1 < w3.heap.size := by omega)))
            go_ret2
            exact ⟨rfl, by (first | (go_grown; done) | (refine below_drewN ?_ _; go_grown; done) | (refine Below.drew (below_drewN ?_ _); go_grown; done))⟩
      · have hn : altOk R C d X key = false := by unfold altOk; rw [kc_mx hm, decide_eq_false k1]; simp
        rw [alt_no hn, hn]
        have k2 : (k : Int) ≤ key := by omega
        clear h hm hX hr hn k1
        go_enter Try.func32, Try.ntmps32
        go_wp2_with (first | (go_at_call 27; (with_reducible refine (H0.out _).mono ?_); rintro e w1 ⟨rfl, hb1⟩; obtain ⟨hc1, hf1, hz1, hd1⟩ := bcell hb1; (try simp at hz1); replace hb1 := Below.via (B := w.heap.size) (a := w) (by (first | (go_grown; done) | (refine below_drewN ?_ _; go_grown; done) | (refine Below.drew (below_drewN ?_ _); go_grown; done))) hb1 (by go_size); (try have hy1 : w.heap.size < w1.heap.size := by omega); (try have hyy1 : w.heap.size + 1 < w1.heap.size := by omega)) | (go_at_call 18; (with_reducible refine (Hk.out _).mono ?_); rintro e w2 ⟨rfl, hb2⟩; obtain ⟨hc2, hf2, hz2, hd2⟩ := bcell hb2; (try simp at hz2); replace hb2 := Below.via (B := w.heap.size) (a := w) (by (first | (go_grown; done) | (refine below_drewN ?_ _; go_grown; done) | (refine Below.drew (below_drewN ?_ _); go_grown; done))) hb2 (by go_size); (try have hy2 : w.heap.size < w2.heap.size := by omega); (try have hyy2 : w.heap.size + 1 < w2.heap.size := by omega)) | (go_at_call 37; (with_reducible refine (l1In_no _ _ _ (by omega) _).mono ?_); rintro e w' ⟨rfl, rfl⟩))
        go_ret2
        exact ⟨rfl, by (first | (go_grown; done) | (refine below_drewN ?_ _; go_grown; done) | (refine Below.drew (below_drewN ?_ _); go_grown; done))⟩
    · have hn : altOk R C d X key = false := by unfold altOk; rw [decide_eq_false k0]; simp
      rw [alt_no hn, hn]
      have k2 : key < 0 := by omega
      clear h hm hX hr hn k0
      go_enter Try.func32, Try.ntmps32
      go_wp2_with (first | (go_at_call 27; (with_reducible refine (H0.out _).mono ?_); rintro e w1 ⟨rfl, hb1⟩; obtain ⟨hc1, hf1, hz1, hd1⟩ := bcell hb1; (try simp at hz1); replace hb1 := Below.via (B := w.heap.size) (a := w) (by (first | (go_grown; done) | (refine below_drewN ?_ _; go_grown; done) | (refine Below.drew (below_drewN ?_ _); go_grown; done))) hb1 (by go_size); (try have hy1 : w.heap.size < w1.heap.size := by omega); (try have hyy1 : w.heap.size + 1 < w1.heap.size := by omega)) | (go_at_call 18; (with_reducible refine (Hk.out _).mono ?_); rintro e w2 ⟨rfl, hb2⟩; obtain ⟨hc2, hf2, hz2, hd2⟩ := bcell hb2; (try simp at hz2); replace hb2 := Below.via (B := w.heap.size) (a := w) (by (first | (go_grown; done) | (refine below_drewN ?_ _; go_grown; done) | (refine Below.drew (below_drewN ?_ _); go_grown; done))) hb2 (by go_size); (try have hy2 : w.heap.size < w2.heap.size := by omega); (try have hyy2 : w.heap.size + 1 < w2.heap.size := by omega)) | (go_at_call 37; (with_reducible refine (l1In_no _ _ _ (by omega) _).mono ?_); rintro e w' ⟨rfl, rfl⟩))
      go_ret2
      exact ⟨rfl, by (first | (go_grown; done) | (refine below_drewN ?_ _; go_grown; done) | (refine Below.drew (below_drewN ?_ _); go_grown; done))⟩

theorem iAlternative_any : Calls Try.prog 26 #[.agg #[.int .i64 r, .int .i64 c, .bool d], .int .i64 x, .int .i64 key] w fun e w' => e = .returned (.tuple #[.int .i64 (altV r c d x key), .bool (altOk r c d x key)]) ∧ Below w.heap.size w w' := by
  have H0 := iIsReading_any r c d x
  cases h : isRd r c d x with
  | false =>
    rw [h] at H0
    have hr : altOk r c d x key = false := by unfold altOk; rw [h]; rfl
    rw [alt_no hr, hr]
    have H0 := hid H0
    clear h hr
    go_enter Try.func26, Try.ntmps26
    go_wp2_with (go_at_call 28; (with_reducible refine (H0.out _).mono ?_); rintro e w1 ⟨rfl, hb1⟩; obtain ⟨hc1, hf1, hz1, hd1⟩ := bcell hb1; (try simp at hz1); replace hb1 := Below.via (B := w.heap.size) (a := w) (by (first | (go_grown; done) | (refine below_drewN ?_ _; go_grown; done) | (refine Below.drew (below_drewN ?_ _); go_grown; done))) hb1 (by go_size); (try have hy1 : w.heap.size < w1.heap.size := by omega); (try have hyy1 : w.heap.size + 1 < w1.heap.size := by omega))
    go_ret2
    exact ⟨rfl, by (first | (go_grown; done) | (refine below_drewN ?_ _; go_grown; done) | (refine Below.drew (below_drewN ?_ _); go_grown; done))⟩
  | true =>
    rw [h] at H0
    obtain ⟨R, C, k, X, rfl, rfl, rfl, hm, hX, hr⟩ := rd_of h
    have Hk := hid (iKeyCount_yes hm d)
    have H0 := hid H0
    have k24 := hm.k24
    by_cases k0 : 0 ≤ key
    · by_cases k1 : key < k
      · obtain ⟨K, rfl⟩ := Int.eq_ofNat_of_zero_le k0
        have hK : K < k := by omega
        obtain ⟨e1, e2, e3, e4⟩ := key_facts (d := d) hm hX hK
        have H1 := hid (iread_any hm d _ e3)
        have ha := alt_mx (d := d) hm hX hr hK
        cases hb : X.testBit K with
        | false =>
          have hal : MM.alt d R C X K = false := by unfold MM.alt; rw [hb]; rfl
          rw [hal] at ha
          rw [alt_no ha, ha]
          rw [hb] at e1
          have e1 : bits .and .i64 ((X : Int) / 2 ^ K) 1 = 0 := e1
          clear h hm hX hr ha hal hb e2 e3
          go_enter Try.func26, Try.ntmps26
          go_wp2_with (first | (go_at_call 28; (with_reducible refine (H0.out _).mono ?_); rintro e w1 ⟨rfl, hb1⟩; obtain ⟨hc1, hf1, hz1, hd1⟩ := bcell hb1; (try simp at hz1); replace hb1 := Below.via (B := w.heap.size) (a := w) (by (first | (go_grown; done) | (refine below_drewN ?_ _; go_grown; done) | (refine Below.drew (below_drewN ?_ _); go_grown; done))) hb1 (by go_size); (try have hy1 : w.heap.size < w1.heap.size := by omega); (try have hyy1 : w.heap.size + 1 < w1.heap.size := by omega)) | (go_at_call 19; (with_reducible refine (Hk.out _).mono ?_); rintro e w2 ⟨rfl, hb2⟩; obtain ⟨hc2, hf2, hz2, hd2⟩ := bcell hb2; (try simp at hz2); replace hb2 := Below.via (B := w.heap.size) (a := w) (by (first | (go_grown; done) | (refine below_drewN ?_ _; go_grown; done) | (refine Below.drew (below_drewN ?_ _); go_grown; done))) hb2 (by go_size); (try have hy2 : w.heap.size < w2.heap.size := by omega); (try have hyy2 : w.heap.size + 1 < w2.heap.size := by omega)))
          go_ret2
          exact ⟨rfl, by (first | (go_grown; done) | (refine below_drewN ?_ _; go_grown; done) | (refine Below.drew (below_drewN ?_ _); go_grown; done))⟩
        | true =>
          rw [hb] at e1
          have e1 : bits .and .i64 ((X : Int) / 2 ^ K) 1 = 1 := e1
          have hal : MM.alt d R C X K = decide (MM.rd d R C (MM.anot X (2 ^ K)) = X) := by unfold MM.alt; rw [hb]; rfl
          by_cases hY : MM.rd d R C (MM.anot X (2 ^ K)) = X
          · have hal' : MM.alt d R C X K = true := by rw [hal, hY]; simp
            rw [altV_mx hm hX hr hK hal', ha, hal']
            rw [hY] at H1
            clear h hm hX hr ha hal hal' hb e3 hY
            generalize MM.anot X (2 ^ K) = L at *
            go_enter Try.func26, Try.ntmps26
            go_wp2_with (first | (go_at_call 28; (with_reducible refine (H0.out _).mono ?_); rintro e w1 ⟨rfl, hb1⟩; obtain ⟨hc1, hf1, hz1, hd1⟩ := bcell hb1; (try simp at hz1); replace hb1 := Below.via (B := w.heap.size) (a := w) (by (first | (go_grown; done) | (refine below_drewN ?_ _; go_grown; done) | (refine Below.drew (below_drewN ?_ _); go_grown; done))) hb1 (by go_size); (try have hy1 : w.heap.size < w1.heap.size := by omega); (try have hyy1 : w.heap.size + 1 < w1.heap.size := by omega)) | (go_at_call 19; (with_reducible refine (Hk.out _).mono ?_); rintro e w2 ⟨rfl, hb2⟩; obtain ⟨hc2, hf2, hz2, hd2⟩ := bcell hb2; (try simp at hz2); replace hb2 := Below.via (B := w.heap.size) (a := w) (by (first | (go_grown; done) | (refine below_drewN ?_ _; go_grown; done) | (refine Below.drew (below_drewN ?_ _); go_grown; done))) hb2 (by go_size); (try have hy2 : w.heap.size < w2.heap.size := by omega); (try have hyy2 : w.heap.size + 1 < w2.heap.size := by omega)) | (go_at_call 41; (with_reducible refine (H1.out _).mono ?_); rintro e w3 ⟨rfl, hb3⟩; obtain ⟨hc3, hf3, hz3, hd3⟩ := bcell hb3; (try simp at hz3); replace hb3 := Below.via (B := w.heap.size) (a := w) (by (first | (go_grown; done) | (refine below_drewN ?_ _; go_grown; done) | (refine Below.drew (below_drewN ?_ _); go_grown; done))) hb3 (by go_size); (try have hy3 : w.heap.size < w3.heap.size := by omega); (try have hyy3 : w.heap.size + 1 < w3.heap.size := by omega)))
            go_ret2
            exact ⟨rfl, by (first | (go_grown; done) | (refine below_drewN ?_ _; go_grown; done) | (refine Below.drew (below_drewN ?_ _); go_grown; done))⟩
          · have hal' : MM.alt d R C X K = false := by rw [hal]; simp [hY]
            rw [hal'] at ha
            rw [alt_no ha, ha]
            clear h hm hX hr ha hal hal' hb e3
            generalize MM.rd d R C (MM.anot X (2 ^ K)) = Y at *
            generalize MM.anot X (2 ^ K) = L at *
            have e5 : ((Y : Int) != (X : Int)) = true := by simp; omega
            clear hY
            go_enter Try.func26, Try.ntmps26
            go_wp2_with (first | (go_at_call 28; (with_reducible refine (H0.out _).mono ?_); rintro e w1 ⟨rfl, hb1⟩; obtain ⟨hc1, hf1, hz1, hd1⟩ := bcell hb1; (try simp at hz1); replace hb1 := Below.via (B := w.heap.size) (a := w) (by (first | (go_grown; done) | (refine below_drewN ?_ _; go_grown; done) | (refine Below.drew (below_drewN ?_ _); go_grown; done))) hb1 (by go_size); (try have hy1 : w.heap.size < w1.heap.size := by omega); (try have hyy1 : w.heap.size + 1 < w1.heap.size := by omega)) | (go_at_call 19; (with_reducible refine (Hk.out _).mono ?_); rintro e w2 ⟨rfl, hb2⟩; obtain ⟨hc2, hf2, hz2, hd2⟩ := bcell hb2; (try simp at hz2); replace hb2 := Below.via (B := w.heap.size) (a := w) (by (first | (go_grown; done) | (refine below_drewN ?_ _; go_grown; done) | (refine Below.drew (below_drewN ?_ _); go_grown; done))) hb2 (by go_size); (try have hy2 : w.heap.size < w2.heap.size := by omega); (try have hyy2 : w.heap.size + 1 < w2.heap.size := by omega)) | (go_at_call 41; (with_reducible refine (H1.out _).mono ?_); rintro e w3 ⟨rfl, hb3⟩; obtain ⟨hc3, hf3, hz3, hd3⟩ := bcell hb3; (try simp at hz3); replace hb3 := Below.via (B := w.heap.size) (a := w) (by (first | (go_grown; done) | (refine below_drewN ?_ _; go_grown; done) | (refine Below.drew (below_drewN ?_ _); go_grown; done))) hb3 (by go_size); (try have hy3 : w.heap.size < w3.heap.size := by omega); (try have hyy3 : w.heap.size + 1 < w3.heap.size := by omega)))
            go_ret2
            exact ⟨rfl, by (first | (go_grown; done) | (refine below_drewN ?_ _; go_grown; done) | (refine Below.drew (below_drewN ?_ _); go_grown; done))⟩
      · have hn : altOk R C d X key = false := by unfold altOk; rw [kc_mx hm, decide_eq_false k1]; simp
        rw [alt_no hn, hn]
        have k2 : (k : Int) ≤ key := by omega
        clear h hm hX hr hn k1
        go_enter Try.func26, Try.ntmps26
        go_wp2_with (first | (go_at_call 28; (with_reducible refine (H0.out _).mono ?_); rintro e w1 ⟨rfl, hb1⟩; obtain ⟨hc1, hf1, hz1, hd1⟩ := bcell hb1; (try simp at hz1); replace hb1 := Below.via (B := w.heap.size) (a := w) (by (first | (go_grown; done) | (refine below_drewN ?_ _; go_grown; done) | (refine Below.drew (below_drewN ?_ _); go_grown; done))) hb1 (by go_size); (try have hy1 : w.heap.size < w1.heap.size := by omega); (try have hyy1 : w.heap.size + 1 < w1.heap.size := by omega)) | (go_at_call 19; (with_reducible refine (Hk.out _).mono ?_); rintro e w2 ⟨rfl, hb2⟩; obtain ⟨hc2, hf2, hz2, hd2⟩ := bcell hb2; (try simp at hz2); replace hb2 := Below.via (B := w.heap.size) (a := w) (by (first | (go_grown; done) | (refine below_drewN ?_ _; go_grown; done) | (refine Below.drew (below_drewN ?_ _); go_grown; done))) hb2 (by go_size); (try have hy2 : w.heap.size < w2.heap.size := by omega); (try have hyy2 : w.heap.size + 1 < w2.heap.size := by omega)))
        go_ret2
        exact ⟨rfl, by (first | (go_grown; done) | (refine below_drewN ?_ _; go_grown; done) | (refine Below.drew (below_drewN ?_ _); go_grown; done))⟩
    · have hn : altOk R C d X key = false := by unfold altOk; rw [decide_eq_false k0]; simp
      rw [alt_no hn, hn]
      have k2 : key < 0 := by omega
      clear h hm hX hr hn k0
      go_enter Try.func26, Try.ntmps26
      go_wp2_with (first | (go_at_call 28; (with_reducible refine (H0.out _).mono ?_); rintro e w1 ⟨rfl, hb1⟩; obtain ⟨hc1, hf1, hz1, hd1⟩ := bcell hb1; (try simp at hz1); replace hb1 := Below.via (B := w.heap.size) (a := w) (by (first | (go_grown; done) | (refine below_drewN ?_ _; go_grown; done) | (refine Below.drew (below_drewN ?_ _); go_grown; done))) hb1 (by go_size); (try have hy1 : w.heap.size < w1.heap.size := by omega); (try have hyy1 : w.heap.size + 1 < w1.heap.size := by omega)) | (go_at_call 19; (with_reducible refine (Hk.out _).mono ?_); rintro e w2 ⟨rfl, hb2⟩; obtain ⟨hc2, hf2, hz2, hd2⟩ := bcell hb2; (try simp at hz2); replace hb2 := Below.via (B := w.heap.size) (a := w) (by (first | (go_grown; done) | (refine below_drewN ?_ _; go_grown; done) | (refine Below.drew (below_drewN ?_ _); go_grown; done))) hb2 (by go_size); (try have hy2 : w.heap.size < w2.heap.size := by omega); (try have hyy2 : w.heap.size + 1 < w2.heap.size := by omega)))
      go_ret2
      exact ⟨rfl, by (first | (go_grown; done) | (refine below_drewN ?_ _; go_grown; done) | (refine Below.drew (below_drewN ?_ _); go_grown; done))⟩
end
end Go.Proofs.Ytmhpepicmnjmgaa
