/- Numbers read from texts: what both programs answer, in plain words. Conditions: none; no program in sight. -/
import Derived.Test.YtpfocjdhjkifmaaDoorFmtI
import Derived.Lib.Atoi
namespace Go.Proofs.YtpfocjdhjkifmaaDoor
set_option linter.unusedVariables false

/-- The number of a text, if the text is the number's own. -/
def piO (l : List UInt8) : Option Int :=
  match Lib.atoi l with
  | some n => if (-999999999 ≤ n ∧ n ≤ 999999999) ∧ Lib.itoa n = l then some n else none
  | none => none
def piN (l : List UInt8) : Int := (piO l).getD 0
def piB (l : List UInt8) : Bool := (piO l).isSome
theorem piO_yes {l : List UInt8} {n : Int} (h : Lib.atoi l = some n) (h1 : -999999999 ≤ n ∧ n ≤ 999999999) (h2 : Lib.itoa n = l) : piO l = some n := by
  unfold piO; rw [h]; simp only; rw [if_pos ⟨h1, h2⟩]
theorem piO_none {l : List UInt8} (h : Lib.atoi l = none) : piO l = none := by unfold piO; rw [h]
theorem piO_no {l : List UInt8} {n : Int} (h : Lib.atoi l = some n) (h1 : ¬ ((-999999999 ≤ n ∧ n ≤ 999999999) ∧ Lib.itoa n = l)) : piO l = none := by
  unfold piO; rw [h]; simp only; rw [if_neg h1]
theorem piO_out {l : List UInt8} {n : Int} (h : piO l = some n) : Lib.atoi l = some n ∧ (-999999999 ≤ n ∧ n ≤ 999999999) ∧ Lib.itoa n = l := by
  unfold piO at h
  cases ha : Lib.atoi l with
  | none => rw [ha] at h; cases h
  | some v =>
    rw [ha] at h
    simp only at h
    by_cases hc : (-999999999 ≤ v ∧ v ≤ 999999999) ∧ Lib.itoa v = l
    · rw [if_pos hc] at h; cases h; exact ⟨rfl, hc⟩
    · rw [if_neg hc] at h; cases h
/-- The digits of a small number: one to nine, the first no sign. -/
theorem dec_len (u : Nat) (h : u ≤ 999999999) : 1 ≤ (Lib.decDigits u).length ∧ (Lib.decDigits u).length ≤ 9 := by
  by_cases h0 : u = 0
  · subst h0; rw [Lib.decDigits_one (by omega)]; simp
  · rw [decDigits_digs h0]
    refine ⟨?_, digs_len 9 u (by omega)⟩
    rw [digs_pos h0, List.length_append]; simp
theorem digs_head : ∀ (k u : Nat), u < 10 ^ k → ∀ b r, digs u = b :: r → 48 ≤ b.toNat ∧ b.toNat ≤ 57
  | 0, u, h, b, r, e => by
    obtain rfl : u = 0 := by simpa using h
    rw [digs_zero] at e; cases e
  | k + 1, u, h, b, r, e => by
    by_cases h0 : u = 0
    · subst h0; rw [digs_zero] at e; cases e
    · rw [digs_pos h0] at e
      by_cases h1 : u / 10 = 0
      · rw [h1, digs_zero] at e
        injection e with e1 e2
        rw [← e1, digit_nat _ (by omega)]; omega
      · cases hd : digs (u / 10) with
        | nil => rw [digs_pos h1] at hd; simp at hd
        | cons b' r' =>
          rw [hd] at e
          injection e with e1 e2
          subst e1
          exact digs_head k (u / 10) (by rw [Nat.pow_succ] at h; omega) b' r' hd
theorem dec_head (u : Nat) (h : u ≤ 999999999) {b : UInt8} {r : List UInt8} (e : Lib.decDigits u = b :: r) : 48 ≤ b.toNat ∧ b.toNat ≤ 57 := by
  by_cases h0 : u = 0
  · subst h0; rw [Lib.decDigits_one (by omega)] at e
    injection e with e1 e2
    rw [← e1]; exact ⟨by decide, by decide⟩
  · rw [decDigits_digs h0] at e
    exact digs_head 9 u (by omega) b r e
/-- What a text without its minus is. -/
def bare : List UInt8 → List UInt8
  | [] => []
  | b :: r => if b == 45 then r else b :: r
theorem bare_cons (b : UInt8) (r : List UInt8) : bare (b :: r) = if b == 45 then r else b :: r := rfl
theorem bare_m (r : List UInt8) : bare (45 :: r) = r := rfl
theorem atoi_cons (b : UInt8) (r : List UInt8) : Lib.atoi (b :: r) = if b == 45 then (Lib.decNat r).map fun (m : Nat) => -(m : Int) else if b == 43 then (Lib.decNat r).map fun (m : Nat) => (m : Int) else (Lib.decNat (b :: r)).map fun (m : Nat) => (m : Int) := rfl
theorem piO_len {l : List UInt8} {n : Int} (h : piO l = some n) : 1 ≤ l.length ∧ l.length ≤ 10 ∧ 1 ≤ (bare l).length ∧ (bare l).length ≤ 9 ∧ ∀ r, l ≠ 43 :: r := by
  obtain ⟨_, h1, h2⟩ := piO_out h
  unfold Lib.itoa at h2
  split at h2
  · have hd := dec_len n.natAbs (by omega)
    rw [← h2]
    refine ⟨by simp, by simp; omega, ?_, ?_, fun r e => by injection e with e1 _; exact absurd e1 (by decide)⟩
    · rw [bare_m]; omega
    · rw [bare_m]; omega
  · have hd := dec_len n.toNat (by omega)
    cases e : Lib.decDigits n.toNat with
    | nil => rw [e] at hd; simp at hd
    | cons b r =>
      have hh := dec_head n.toNat (by omega) e
      have hb : (b == 45) = false := by
        rw [beq_eq_false_iff_ne]; intro e3; subst e3; exact absurd hh.1 (by decide)
      rw [e] at hd h2
      rw [← h2]
      have hbr : bare (b :: r) = b :: r := by rw [bare_cons, hb]; rfl
      rw [hbr]
      refine ⟨hd.1, by omega, hd.1, hd.2, fun r' e' => ?_⟩
      injection e' with e1 _
      subst e1
      exact absurd hh.1 (by decide)
theorem decFrom_lt : ∀ (l : List UInt8) (acc v : Nat), Lib.decFrom acc l = some v → v < (acc + 1) * 10 ^ l.length
  | [], acc, v, h => by simp [Lib.decFrom] at h; subst h; simp
  | b :: r, acc, v, h => by
    simp only [Lib.decFrom] at h
    cases hb : Lib.digitVal b with
    | none => rw [hb] at h; cases h
    | some d =>
      rw [hb] at h
      have h1 := decFrom_lt r _ v h
      have h2 : d ≤ 9 := by
        unfold Lib.digitVal at hb
        split at hb
        · injection hb with hb; omega
        · cases hb
      have h3 : (acc * 10 + d + 1) * 10 ^ r.length ≤ (acc * 10 + 10) * 10 ^ r.length := Nat.mul_le_mul_right _ (by omega)
      rw [List.length_cons, Nat.pow_succ]
      have h4 : (acc + 1) * (10 ^ r.length * 10) = (acc * 10 + 10) * 10 ^ r.length := by
        rw [Nat.mul_comm (10 ^ r.length) 10, ← Nat.mul_assoc]; congr 1; omega
      omega
/-- The number that the reference makes of the bare text's value. -/
def sgn (l : List UInt8) (v : Nat) : Int := if (bare l).length < l.length then -(v : Int) else (v : Int)
/-- All digits: what both read. -/
theorem atoi_bare {l : List UInt8} {v : Nat} (h1 : 1 ≤ (bare l).length) (h : Lib.decFrom 0 (bare l) = some v) : Lib.atoi l = some (sgn l v) := by
  cases l with
  | nil => simp [bare] at h1
  | cons b r =>
    unfold sgn
    by_cases hb : b == 45
    · have e : bare (b :: r) = r := by rw [bare_cons, if_pos hb]
      rw [e] at h h1 ⊢
      rw [if_pos (by simp)]
      rw [atoi_cons]; unfold Lib.decNat
      rw [if_pos hb, if_neg (by intro e; rw [List.isEmpty_iff] at e; subst e; simp at h1), h]; rfl
    · have e : bare (b :: r) = b :: r := by rw [bare_cons, if_neg hb]
      rw [e] at h ⊢
      rw [if_neg (by omega)]
      rw [atoi_cons]; unfold Lib.decNat
      have hb2 : ¬ (b == 43) = true := by
        intro e2
        have : b = 43 := by simpa using e2
        subst this
        simp [Lib.decFrom, Lib.digitVal] at h
      rw [if_neg hb, if_neg hb2, if_neg (by simp), h]; rfl
/-- Some byte is no digit: nothing is read. -/
theorem piO_bad {l : List UInt8} (h : Lib.decFrom 0 (bare l) = none) : piO l = none := by
  cases e : piO l with
  | none => rfl
  | some n =>
    obtain ⟨ha, _, _⟩ := piO_out e
    obtain ⟨_, _, _, _, h43⟩ := piO_len e
    cases l with
    | nil => cases ha
    | cons b r =>
      rw [atoi_cons] at ha
      by_cases hb : b == 45
      · have e2 : bare (b :: r) = r := by rw [bare_cons, if_pos hb]
        rw [e2] at h
        rw [if_pos hb] at ha
        unfold Lib.decNat at ha
        split at ha
        · cases ha
        · rw [h] at ha; cases ha
      · have e2 : bare (b :: r) = b :: r := by rw [bare_cons, if_neg hb]
        rw [e2] at h
        have hb2 : ¬ (b == 43) = true := by
          intro e3
          have : b = 43 := by simpa using e3
          subst this
          exact h43 r rfl
        rw [if_neg hb, if_neg hb2] at ha
        unfold Lib.decNat at ha
        rw [if_neg (by simp), h] at ha; cases ha
theorem piO_short {l : List UInt8} (h : ¬ (1 ≤ (bare l).length ∧ (bare l).length ≤ 9)) : piO l = none := by
  cases e : piO l with
  | none => rfl
  | some n => have := piO_len e; exact absurd ⟨this.2.2.1, this.2.2.2.1⟩ h
theorem piO_long {l : List UInt8} (h : ¬ (1 ≤ l.length ∧ l.length ≤ 10)) : piO l = none := by
  cases e : piO l with
  | none => rfl
  | some n => have := piO_len e; exact absurd ⟨this.1, this.2.1⟩ h
theorem sgn_small {l : List UInt8} {v : Nat} (h9 : (bare l).length ≤ 9) (h : Lib.decFrom 0 (bare l) = some v) : v ≤ 999999999 ∧ -999999999 ≤ sgn l v ∧ sgn l v ≤ 999999999 := by
  have h1 := decFrom_lt _ _ _ h
  have h2 : 10 ^ (bare l).length ≤ 10 ^ 9 := Nat.pow_le_pow_right (by omega) h9
  have h3 : v ≤ 999999999 := by omega
  unfold sgn
  refine ⟨h3, ?_⟩
  split <;> omega
end Go.Proofs.YtpfocjdhjkifmaaDoor
