/- The plain mathematics of the matrix: rows of a mask, joining rows that share a column, and what the closure under joining is. Conditions: none; no program in sight. -/
namespace Go.Proofs.Ytmhpepicmnjmgaa.MM

/-- The keys of row r of a mask, with C columns. -/
def row (C x r : Nat) : Nat := x / 2 ^ (r * C) % 2 ^ C
/-- Row a takes row b in, where they share a column. -/
def join (f : Nat → Nat) (a b : Nat) : Nat → Nat := if f a &&& f b = 0 then f else fun r => if r = a then f a ||| f b else f r
def inB (f : Nat → Nat) (a : Nat) : Nat → Nat → Nat
  | 0 => f
  | k + 1 => join (inB f a k) a k
def inA (R : Nat) (f : Nat → Nat) : Nat → Nat → Nat
  | 0 => f
  | k + 1 => inB (inA R f k) k R
def inN (R : Nat) (f : Nat → Nat) : Nat → Nat → Nat
  | 0 => f
  | k + 1 => inA R (inN R f k) R
/-- The mask with rows f. -/
def enc (C : Nat) (f : Nat → Nat) : Nat → Nat
  | 0 => 0
  | k + 1 => enc C f k ||| f k <<< (k * C)
/-- What is read. -/
def rd (D : Bool) (R C x : Nat) : Nat := if D then x else enc C (inN R (row C x) R) R

/-! ### rows and masks -/
theorem row_lt (C x r : Nat) : row C x r < 2 ^ C := Nat.mod_lt _ (Nat.two_pow_pos _)
theorem row_bit (C x r i : Nat) : (row C x r).testBit i = (decide (i < C) && x.testBit (r * C + i)) := by
  unfold row; rw [Nat.testBit_mod_two_pow, Nat.testBit_div_two_pow]; simp [Nat.add_comm]
theorem enc_bit (C : Nat) (f : Nat → Nat) (hC : 0 < C) (hf : ∀ r, f r < 2 ^ C) : ∀ (R i : Nat), (enc C f R).testBit i = (decide (i / C < R) && (f (i / C)).testBit (i % C))
  | 0, i => by simp [enc]
  | R + 1, i => by
    rw [enc, Nat.testBit_or, enc_bit C f hC hf R i, Nat.testBit_shiftLeft]
    have hdm := Nat.div_add_mod i C
    have hlt := Nat.mod_lt i hC
    by_cases h1 : i / C < R
    · have h2 : ¬ i ≥ R * C := by
        intro h; have : R ≤ i / C := (Nat.le_div_iff_mul_le hC).2 h; omega
      have h3 : i / C < R + 1 := by omega
      simp [h1, h2, h3]
    · by_cases h2 : i / C = R
      · have h3 : i ≥ R * C := by
          have : R ≤ i / C := by omega
          exact (Nat.le_div_iff_mul_le hC).1 this
        have h4 : i - R * C = i % C := by
          have h5 : C * (i / C) = R * C := by rw [h2, Nat.mul_comm]
          omega
        simp [h2, h3, h4]
      · have h3 : ¬ i / C < R + 1 := by omega
        have h4 : i - R * C ≥ C := by
          have : R + 1 ≤ i / C := by omega
          have := (Nat.le_div_iff_mul_le hC).1 this
          rw [Nat.add_mul] at this; omega
        have h5 : (f R).testBit (i - R * C) = false := Nat.testBit_lt_two_pow (Nat.lt_of_lt_of_le (hf R) (Nat.pow_le_pow_right (by omega) h4))
        simp [h1, h3, h5]
theorem join_lt {C : Nat} {f : Nat → Nat} (hf : ∀ r, f r < 2 ^ C) (a b r : Nat) : join f a b r < 2 ^ C := by
  unfold join; split
  · exact hf r
  · simp only []; split
    · exact Nat.or_lt_two_pow (hf a) (hf b)
    · exact hf r
theorem inB_lt {C : Nat} {f : Nat → Nat} (hf : ∀ r, f r < 2 ^ C) (a : Nat) : ∀ k r, inB f a k r < 2 ^ C
  | 0, r => hf r
  | k + 1, r => join_lt (fun r => inB_lt hf a k r) a k r
theorem inA_lt {C R : Nat} {f : Nat → Nat} (hf : ∀ r, f r < 2 ^ C) : ∀ k r, inA R f k r < 2 ^ C
  | 0, r => hf r
  | k + 1, r => inB_lt (fun r => inA_lt hf k r) k R r
theorem inN_lt {C R : Nat} {f : Nat → Nat} (hf : ∀ r, f r < 2 ^ C) : ∀ k r, inN R f k r < 2 ^ C
  | 0, r => hf r
  | k + 1, r => inA_lt (fun r => inN_lt hf k r) R r
theorem enc_lt (C : Nat) (f : Nat → Nat) (hf : ∀ r, f r < 2 ^ C) : ∀ R, enc C f R < 2 ^ (R * C)
  | 0 => by simp [enc]
  | R + 1 => by
    rw [enc]
    have h1 := enc_lt C f hf R
    have h2 : 2 ^ (R * C) ≤ 2 ^ ((R + 1) * C) := Nat.pow_le_pow_right (by omega) (Nat.mul_le_mul_right _ (by omega))
    refine Nat.or_lt_two_pow (by omega) ?_
    rw [Nat.shiftLeft_eq, Nat.add_mul, Nat.one_mul, Nat.pow_add, Nat.mul_comm (2 ^ (R * C))]
    exact Nat.mul_lt_mul_of_pos_right (hf R) (Nat.two_pow_pos _)
theorem row_enc {C : Nat} (hC : 0 < C) {f : Nat → Nat} (hf : ∀ r, f r < 2 ^ C) {R r : Nat} (hr : r < R) : row C (enc C f R) r = f r := by
  apply Nat.eq_of_testBit_eq; intro i
  rw [row_bit, enc_bit C f hC hf]
  by_cases h : i < C
  · have h1 : (r * C + i) / C = r := by rw [Nat.mul_comm, Nat.mul_add_div hC, Nat.div_eq_of_lt h]; rfl
    have h2 : (r * C + i) % C = i := by rw [Nat.mul_comm, Nat.mul_add_mod, Nat.mod_eq_of_lt h]
    simp [h, h1, h2, hr]
  · have h5 : (f r).testBit i = false := Nat.testBit_lt_two_pow (Nat.lt_of_lt_of_le (hf r) (Nat.pow_le_pow_right (by omega) (by omega)))
    simp [h, h5]
theorem enc_row {C : Nat} (hC : 0 < C) {R x : Nat} (hx : x < 2 ^ (R * C)) : enc C (row C x) R = x := by
  apply Nat.eq_of_testBit_eq; intro i
  rw [enc_bit C _ hC (row_lt C x), row_bit]
  have hdm := Nat.div_add_mod i C
  have hlt := Nat.mod_lt i hC
  have h1 : i / C * C + i % C = i := by rw [Nat.mul_comm]; exact hdm
  rw [h1]
  by_cases h : i / C < R
  · simp [h, hlt]
  · have h2 : R * C ≤ i := (Nat.le_div_iff_mul_le hC).1 (by omega)
    have h5 : x.testBit i = false := Nat.testBit_lt_two_pow (Nat.lt_of_lt_of_le hx (Nat.pow_le_pow_right (by omega) h2))
    simp [h, h5]
theorem enc_congr {C : Nat} {f g : Nat → Nat} : ∀ R, (∀ r, r < R → f r = g r) → enc C f R = enc C g R
  | 0, _ => rfl
  | R + 1, h => by rw [enc, enc, enc_congr R (fun r hr => h r (by omega)), h R (by omega)]
/-- One step on masks: what the reference does. -/
theorem enc_join {C : Nat} (hC : 0 < C) {f : Nat → Nat} (hf : ∀ r, f r < 2 ^ C) {R a b : Nat} (ha : a < R) (hb : b < R) :
    enc C (join f a b) R = if row C (enc C f R) a &&& row C (enc C f R) b = 0 then enc C f R else enc C f R ||| row C (enc C f R) b <<< (a * C) := by
  rw [row_enc hC hf ha, row_enc hC hf hb]
  unfold join
  by_cases h : f a &&& f b = 0
  · simp [h]
  · simp only [h, if_false]
    apply Nat.eq_of_testBit_eq; intro i
    have hg : ∀ r, (fun r => if r = a then f a ||| f b else f r) r < 2 ^ C := by
      intro r; simp only []; split
      · exact Nat.or_lt_two_pow (hf a) (hf b)
      · exact hf r
    rw [enc_bit C _ hC hg, Nat.testBit_or, enc_bit C f hC hf, Nat.testBit_shiftLeft]
    have hdm := Nat.div_add_mod i C
    have hlt := Nat.mod_lt i hC
    by_cases h1 : i / C = a
    · have h3 : i ≥ a * C := (Nat.le_div_iff_mul_le hC).1 (by omega)
      have h4 : i - a * C = i % C := by
        have h5 : C * (i / C) = a * C := by rw [h1, Nat.mul_comm]
        omega
      simp [h1, h3, h4, ha, Nat.testBit_or]
    · have h6 : (decide (i ≥ a * C) && (f b).testBit (i - a * C)) = false := by
        by_cases h3 : i ≥ a * C
        · have h7 : a ≤ i / C := (Nat.le_div_iff_mul_le hC).2 h3
          have h4 : i - a * C ≥ C := by
            have : a + 1 ≤ i / C := by omega
            have := (Nat.le_div_iff_mul_le hC).1 this
            rw [Nat.add_mul] at this; omega
          have h5 : (f b).testBit (i - a * C) = false := Nat.testBit_lt_two_pow (Nat.lt_of_lt_of_le (hf b) (Nat.pow_le_pow_right (by omega) h4))
          simp [h5]
        · simp [h3]
      simp [h1, h6]

/-! ### the closure -/
def Sub (f g : Nat → Nat) : Prop := ∀ r i, (f r).testBit i = true → (g r).testBit i = true
def Closed (R : Nat) (f : Nat → Nat) : Prop := ∀ a b, a < R → b < R → f a &&& f b ≠ 0 → ∀ i, (f b).testBit i = true → (f a).testBit i = true
theorem Sub.refl (f : Nat → Nat) : Sub f f := fun _ _ h => h
theorem Sub.trans {f g h : Nat → Nat} (x : Sub f g) (y : Sub g h) : Sub f h := fun r i k => y r i (x r i k)
theorem and_ne {x y : Nat} : x &&& y ≠ 0 ↔ ∃ i, x.testBit i = true ∧ y.testBit i = true := by
  constructor
  · intro h
    obtain ⟨i, hi⟩ := Nat.exists_testBit_of_ne_zero h
    rw [Nat.testBit_and, Bool.and_eq_true] at hi
    exact ⟨i, hi⟩
  · rintro ⟨i, h1, h2⟩ h
    have : (x &&& y).testBit i = true := by rw [Nat.testBit_and, h1, h2]; rfl
    rw [h] at this; simp at this
theorem sub_join (f : Nat → Nat) (a b : Nat) : Sub f (join f a b) := by
  intro r i h
  unfold join; split
  · exact h
  · simp only []; split
    · rename_i e; subst e; rw [Nat.testBit_or, h]; rfl
    · exact h
theorem sub_inB (f : Nat → Nat) (a : Nat) : ∀ k, Sub f (inB f a k)
  | 0 => Sub.refl f
  | k + 1 => (sub_inB f a k).trans (sub_join _ a k)
theorem inB_mono (f : Nat → Nat) (a : Nat) {j : Nat} : ∀ k, j ≤ k → Sub (inB f a j) (inB f a k)
  | 0, h => by obtain rfl : j = 0 := by omega
               exact Sub.refl _
  | k + 1, h => by
    by_cases e : j = k + 1
    · subst e; exact Sub.refl _
    · exact (inB_mono f a k (by omega)).trans (sub_join _ a k)
theorem sub_inA (R : Nat) (f : Nat → Nat) : ∀ k, Sub f (inA R f k)
  | 0 => Sub.refl f
  | k + 1 => (sub_inA R f k).trans (sub_inB _ k R)
theorem inA_mono (R : Nat) (f : Nat → Nat) {j : Nat} : ∀ k, j ≤ k → Sub (inA R f j) (inA R f k)
  | 0, h => by obtain rfl : j = 0 := by omega
               exact Sub.refl _
  | k + 1, h => by
    by_cases e : j = k + 1
    · subst e; exact Sub.refl _
    · exact (inA_mono R f k (by omega)).trans (sub_inB _ k R)
theorem sub_inN (R : Nat) (f : Nat → Nat) : ∀ k, Sub f (inN R f k)
  | 0 => Sub.refl f
  | k + 1 => (sub_inN R f k).trans (sub_inA R _ R)
theorem join_takes (f : Nat → Nat) (a b : Nat) (h : f a &&& f b ≠ 0) : ∀ i, (f b).testBit i = true → (join f a b a).testBit i = true := by
  intro i hi
  unfold join; rw [if_neg h]; simp [Nat.testBit_or, hi]
/-- One whole pass: what shared a column has been taken in. -/
theorem pass_takes (R : Nat) (f : Nat → Nat) (a b : Nat) (ha : a < R) (hb : b < R) (h : f a &&& f b ≠ 0) : ∀ i, (f b).testBit i = true → (inA R f R a).testBit i = true := by
  intro i hi
  obtain ⟨c, h1, h2⟩ := and_ne.1 h
  have s1 : Sub f (inB (inA R f a) a b) := (sub_inA R f a).trans (sub_inB _ a b)
  have s2 : Sub (inB (inA R f a) a (b + 1)) (inA R f R) := (inB_mono _ a R (by omega)).trans (inA_mono R f (j := a + 1) R (by omega))
  exact s2 a i (join_takes _ a b (and_ne.2 ⟨c, s1 a c h1, s1 b c h2⟩) i (s1 b i hi))

/-! ### paths -/
def E (f : Nat → Nat) (a b : Nat) : Prop := a = b ∨ f a &&& f b ≠ 0
def Pth (R : Nat) (f : Nat → Nat) : Nat → Nat → Nat → Prop
  | 0, a, b => a = b
  | k + 1, a, b => ∃ c, c < R ∧ E f a c ∧ Pth R f k c b
inductive Conn (R : Nat) (f : Nat → Nat) : Nat → Nat → Prop
  | refl (a : Nat) : Conn R f a a
  | step {a c b : Nat} : c < R → f a &&& f c ≠ 0 → Conn R f c b → Conn R f a b
theorem Pth.more {R : Nat} {f : Nat → Nat} : ∀ {k a b : Nat}, a < R → Pth R f k a b → Pth R f (k + 1) a b
  | _, a, _, ha, h => ⟨a, ha, .inl rfl, h⟩
theorem Pth.upto {R : Nat} {f : Nat → Nat} {a b : Nat} (ha : a < R) : ∀ {k j : Nat}, j ≤ k → Pth R f j a b → Pth R f k a b
  | 0, j, hj, h => by obtain rfl : j = 0 := by omega
                      exact h
  | k + 1, j, hj, h => by
    by_cases e : j = k + 1
    · subst e; exact h
    · exact Pth.more ha (Pth.upto ha (k := k) (by omega) h)
theorem Pth.takes {R : Nat} {f : Nat → Nat} : ∀ {k a b : Nat}, a < R → Pth R f k a b → ∀ i, (f b).testBit i = true → (inN R f k a).testBit i = true
  | 0, a, b, _, h, i, hi => by obtain rfl : a = b := h
                               exact hi
  | k + 1, a, b, ha, ⟨c, hc, he, hp⟩, i, hi => by
    have h1 := Pth.takes hc hp i hi
    rcases he with rfl | he
    · exact sub_inA R _ R a i h1
    · obtain ⟨j, x1, x2⟩ := and_ne.1 he
      have s := sub_inN R f k
      exact pass_takes R _ a c ha hc (and_ne.2 ⟨j, s a j x1, s c j x2⟩) i h1
theorem short4 {f : Nat → Nat} {a b : Nat} (ha : a < 4) (hb : b < 4) (h : Pth 4 f 4 a b) : Pth 4 f 3 a b := by
  obtain ⟨c1, h1, e1, c2, h2, e2, c3, h3, e3, c4, h4, e4, rfl⟩ := h
  by_cases x1 : a = c1
  · subst x1; exact ⟨c2, h2, e2, c3, h3, e3, _, h4, e4, rfl⟩
  by_cases x2 : a = c2
  · subst x2; exact Pth.upto (k := 3) (j := 2) ha (by omega) ⟨c3, h3, e3, _, h4, e4, rfl⟩
  by_cases x3 : a = c3
  · subst x3; exact Pth.upto (k := 3) (j := 1) ha (by omega) ⟨_, h4, e4, rfl⟩
  by_cases x4 : a = c4
  · subst x4; exact Pth.upto (k := 3) (j := 0) ha (by omega) rfl
  by_cases x5 : c1 = c2
  · subst x5; exact ⟨c1, h1, e1, c3, h3, e3, _, h4, e4, rfl⟩
  by_cases x6 : c1 = c3
  · subst x6; exact Pth.upto (k := 3) (j := 2) ha (by omega) ⟨c1, h1, e1, _, h4, e4, rfl⟩
  by_cases x7 : c1 = c4
  · subst x7; exact Pth.upto (k := 3) (j := 1) ha (by omega) ⟨c1, h1, e1, rfl⟩
  by_cases x8 : c2 = c3
  · subst x8; exact ⟨c1, h1, e1, c2, h2, e2, _, h4, e4, rfl⟩
  by_cases x9 : c2 = c4
  · subst x9; exact Pth.upto (k := 3) (j := 2) ha (by omega) ⟨c1, h1, e1, _, h2, e2, rfl⟩
  by_cases x10 : c3 = c4
  · subst x10; exact ⟨c1, h1, e1, c2, h2, e2, _, h3, e3, rfl⟩
  omega
theorem short3 {f : Nat → Nat} {a b : Nat} (ha : a < 3) (hb : b < 3) (h : Pth 3 f 3 a b) : Pth 3 f 2 a b := by
  obtain ⟨c1, h1, e1, c2, h2, e2, c3, h3, e3, rfl⟩ := h
  by_cases x1 : a = c1
  · subst x1; exact ⟨c2, h2, e2, _, h3, e3, rfl⟩
  by_cases x2 : a = c2
  · subst x2; exact Pth.upto (k := 2) (j := 1) ha (by omega) ⟨_, h3, e3, rfl⟩
  by_cases x3 : a = c3
  · subst x3; exact Pth.upto (k := 2) (j := 0) ha (by omega) rfl
  by_cases x5 : c1 = c2
  · subst x5; exact ⟨c1, h1, e1, _, h3, e3, rfl⟩
  by_cases x6 : c1 = c3
  · subst x6; exact Pth.upto (k := 2) (j := 1) ha (by omega) ⟨c1, h1, e1, rfl⟩
  by_cases x8 : c2 = c3
  · subst x8; exact ⟨c1, h1, e1, _, h2, e2, rfl⟩
  omega
theorem short2 {f : Nat → Nat} {a b : Nat} (ha : a < 2) (hb : b < 2) (h : Pth 2 f 2 a b) : Pth 2 f 1 a b := by
  obtain ⟨c1, h1, e1, c2, h2, e2, rfl⟩ := h
  by_cases x1 : a = c1
  · subst x1; exact ⟨_, h2, e2, rfl⟩
  by_cases x2 : a = c2
  · subst x2; exact Pth.upto (k := 1) (j := 0) ha (by omega) rfl
  by_cases x5 : c1 = c2
  · subst x5; exact ⟨c1, h1, e1, rfl⟩
  omega
theorem short1 {f : Nat → Nat} {a b : Nat} (ha : a < 1) (hb : b < 1) (_h : Pth 1 f 1 a b) : Pth 1 f 0 a b := by
  show a = b
  omega
theorem Conn.lt {R : Nat} {f : Nat → Nat} {a b : Nat} (ha : a < R) (h : Conn R f a b) : b < R := by
  induction h with
  | refl => exact ha
  | step hc _ _ ih => exact ih hc
theorem Conn.pth {R : Nat} {f : Nat → Nat} (hR : R ≤ 4) {a b : Nat} (ha : a < R) (h : Conn R f a b) : Pth R f R a b := by
  have key : ∀ {a b : Nat}, a < R → b < R → Pth R f R a b → Pth R f (R - 1) a b := by
    intro a b ha hb hp
    match R, hR, ha, hb, hp with
    | 1, _, ha, hb, hp => exact short1 ha hb hp
    | 2, _, ha, hb, hp => exact short2 ha hb hp
    | 3, _, ha, hb, hp => exact short3 ha hb hp
    | 4, _, ha, hb, hp => exact short4 ha hb hp
  induction h with
  | refl a => exact Pth.upto ha (j := 0) (by omega) rfl
  | @step a c b hc he hcb ih =>
    have h1 := key hc (hcb.lt hc) (ih hc)
    have h2 : Pth R f (R - 1 + 1) a b := ⟨c, hc, .inr he, h1⟩
    rwa [show R - 1 + 1 = R from by omega] at h2
theorem Conn.trans {R : Nat} {f : Nat → Nat} {a b c : Nat} (h : Conn R f a b) (k : Conn R f b c) : Conn R f a c := by
  induction h with
  | refl => exact k
  | step hc he _ ih => exact .step hc he (ih k)
theorem Conn.symm {R : Nat} {f : Nat → Nat} {a b : Nat} (ha : a < R) (h : Conn R f a b) : Conn R f b a := by
  induction h with
  | refl => exact .refl _
  | step hc he _ ih => exact (ih hc).trans (.step ha (by rwa [Nat.and_comm]) (.refl _))
/-- Every bit of a row of g comes from a row of f that is connected. -/
def Sound (R : Nat) (f g : Nat → Nat) : Prop := ∀ a, a < R → ∀ i, (g a).testBit i = true → ∃ b, Conn R f a b ∧ (f b).testBit i = true
theorem Sound.conn {R : Nat} {f g : Nat → Nat} (h : Sound R f g) {a b : Nat} (ha : a < R) (hb : b < R) (hne : g a &&& g b ≠ 0) : Conn R f a b := by
  obtain ⟨i, h1, h2⟩ := and_ne.1 hne
  obtain ⟨a', ca, fa⟩ := h a ha i h1
  obtain ⟨b', cb, fb⟩ := h b hb i h2
  exact ca.trans (.step (cb.lt hb) (and_ne.2 ⟨i, fa, fb⟩) (cb.symm hb))
theorem Sound.join {R : Nat} {f g : Nat → Nat} (h : Sound R f g) {a b : Nat} (ha : a < R) (hb : b < R) : Sound R f (join g a b) := by
  intro r hr i hi
  unfold MM.join at hi
  split at hi
  · exact h r hr i hi
  · rename_i hne
    simp only [] at hi
    split at hi
    · rename_i e; subst e
      rw [Nat.testBit_or, Bool.or_eq_true] at hi
      rcases hi with hi | hi
      · exact h r hr i hi
      · obtain ⟨b', cb, fb⟩ := h b hb i hi
        exact ⟨b', (h.conn hr hb hne).trans cb, fb⟩
    · exact h r hr i hi
theorem Sound.inB {R : Nat} {f g : Nat → Nat} (h : Sound R f g) {a : Nat} (ha : a < R) : ∀ k, k ≤ R → Sound R f (inB g a k)
  | 0, _ => h
  | k + 1, hk => (Sound.inB h ha k (by omega)).join ha (by omega)
theorem Sound.inA {R : Nat} {f g : Nat → Nat} (h : Sound R f g) : ∀ k, k ≤ R → Sound R f (inA R g k)
  | 0, _ => h
  | k + 1, hk => (Sound.inA h k (by omega)).inB (by omega) R (Nat.le_refl _)
theorem sound_inN {R : Nat} {f : Nat → Nat} : ∀ k, Sound R f (inN R f k)
  | 0 => fun a _ _ hi => ⟨a, .refl a, hi⟩
  | k + 1 => (sound_inN k).inA R (Nat.le_refl _)
theorem closed_inN {R : Nat} (hR : R ≤ 4) (f : Nat → Nat) : Closed R (inN R f R) := by
  intro a b ha hb hne i hi
  have s := sound_inN (R := R) (f := f) R
  obtain ⟨b', cb, fb⟩ := s b hb i hi
  exact (((s.conn ha hb hne).trans cb).pth hR ha).takes ha i fb

/-! ### a closed set of rows stays; the closure is the least -/
theorem Closed.join {R : Nat} {f : Nat → Nat} (h : Closed R f) {a b : Nat} (ha : a < R) (hb : b < R) : join f a b = f := by
  unfold MM.join
  by_cases hne : f a &&& f b = 0
  · rw [if_pos hne]
  · rw [if_neg hne]
    funext r
    by_cases e : r = a
    · subst e
      rw [if_pos rfl]
      apply Nat.eq_of_testBit_eq; intro i
      rw [Nat.testBit_or]
      cases h1 : (f r).testBit i with
      | true => rfl
      | false =>
        cases h2 : (f b).testBit i with
        | false => rfl
        | true => rw [h r b ha hb hne i h2] at h1; cases h1
    · rw [if_neg e]
theorem Closed.inB {R : Nat} {f : Nat → Nat} (h : Closed R f) {a : Nat} (ha : a < R) : ∀ k, k ≤ R → inB f a k = f
  | 0, _ => rfl
  | k + 1, hk => by rw [MM.inB, Closed.inB h ha k (by omega)]; exact h.join ha (by omega)
theorem Closed.inA {R : Nat} {f : Nat → Nat} (h : Closed R f) : ∀ k, k ≤ R → inA R f k = f
  | 0, _ => rfl
  | k + 1, hk => by rw [MM.inA, Closed.inA h k (by omega)]; exact h.inB (by omega) R (Nat.le_refl _)
theorem Closed.inN {R : Nat} {f : Nat → Nat} (h : Closed R f) : ∀ k, inN R f k = f
  | 0 => rfl
  | k + 1 => by rw [MM.inN, Closed.inN h k]; exact h.inA R (Nat.le_refl _)
/-- Below, for the rows of the matrix alone. -/
def SubR (R : Nat) (f g : Nat → Nat) : Prop := ∀ r, r < R → ∀ i, (f r).testBit i = true → (g r).testBit i = true
theorem SubR.join {R : Nat} {f g : Nat → Nat} (h : SubR R f g) (hg : Closed R g) {a b : Nat} (ha : a < R) (hb : b < R) : SubR R (join f a b) g := by
  intro r hr i hi
  unfold MM.join at hi
  split at hi
  · exact h r hr i hi
  · rename_i hne
    simp only [] at hi
    split at hi
    · rename_i e; subst e
      rw [Nat.testBit_or, Bool.or_eq_true] at hi
      rcases hi with hi | hi
      · exact h r hr i hi
      · obtain ⟨j, h1, h2⟩ := and_ne.1 hne
        exact hg r b hr hb (and_ne.2 ⟨j, h r hr j h1, h b hb j h2⟩) i (h b hb i hi)
    · exact h r hr i hi
theorem SubR.inB {R : Nat} {f g : Nat → Nat} (h : SubR R f g) (hg : Closed R g) {a : Nat} (ha : a < R) : ∀ k, k ≤ R → SubR R (inB f a k) g
  | 0, _ => h
  | k + 1, hk => (SubR.inB h hg ha k (by omega)).join hg ha (by omega)
theorem SubR.inA {R : Nat} {f g : Nat → Nat} (h : SubR R f g) (hg : Closed R g) : ∀ k, k ≤ R → SubR R (inA R f k) g
  | 0, _ => h
  | k + 1, hk => (SubR.inA h hg k (by omega)).inB hg (by omega) R (Nat.le_refl _)
theorem SubR.inN {R : Nat} {f g : Nat → Nat} (h : SubR R f g) (hg : Closed R g) : ∀ k, SubR R (inN R f k) g
  | 0 => h
  | k + 1 => (SubR.inN h hg k).inA hg R (Nat.le_refl _)

/-! ### what is read -/
def Bits (x y : Nat) : Prop := ∀ i, x.testBit i = true → y.testBit i = true
section
variable {D : Bool} {R C x y : Nat}
theorem rd_lt (hx : x < 2 ^ (R * C)) : rd D R C x < 2 ^ (R * C) := by
  unfold rd; split
  · exact hx
  · exact enc_lt C _ (inN_lt (row_lt C x) R) R
theorem rd_diodes : rd true R C x = x := rfl
theorem bits_row (h : Bits x y) : SubR R (row C x) (row C y) := by
  intro r _ i hi
  rw [row_bit, Bool.and_eq_true] at hi ⊢
  exact ⟨hi.1, h _ hi.2⟩
theorem bits_enc (hC : 0 < C) {f g : Nat → Nat} (hf : ∀ r, f r < 2 ^ C) (hg : ∀ r, g r < 2 ^ C) (h : SubR R f g) : Bits (enc C f R) (enc C g R) := by
  intro i hi
  rw [enc_bit C _ hC hf, Bool.and_eq_true, decide_eq_true_eq] at hi
  rw [enc_bit C _ hC hg, Bool.and_eq_true, decide_eq_true_eq]
  exact ⟨hi.1, h _ hi.1 _ hi.2⟩
theorem rd_ext (hC : 0 < C) (hx : x < 2 ^ (R * C)) : Bits x (rd D R C x) := by
  cases D with
  | true => exact fun _ h => h
  | false =>
    have := bits_enc (R := R) hC (row_lt C x) (inN_lt (R := R) (row_lt C x) R) (fun r _ i hi => sub_inN R _ R r i hi)
    rw [enc_row hC hx] at this
    exact this
theorem row_rd (hC : 0 < C) {r : Nat} (hr : r < R) : row C (rd false R C x) r = inN R (row C x) R r := row_enc hC (inN_lt (row_lt C x) R) hr
theorem closed_rd (hR : R ≤ 4) (hC : 0 < C) : Closed R (row C (rd false R C x)) := by
  intro a b ha hb
  rw [row_rd hC ha, row_rd hC hb]
  exact closed_inN hR _ a b ha hb
theorem rd_of_closed (hC : 0 < C) (hx : x < 2 ^ (R * C)) (h : Closed R (row C x)) : rd D R C x = x := by
  cases D with
  | true => rfl
  | false =>
    show enc C (inN R (row C x) R) R = x
    rw [h.inN, enc_row hC hx]
theorem rd_rd (hR : R ≤ 4) (hC : 0 < C) (hx : x < 2 ^ (R * C)) : rd D R C (rd D R C x) = rd D R C x := by
  cases D with
  | true => rfl
  | false => exact rd_of_closed hC (rd_lt hx) (closed_rd hR hC)
theorem rd_mono (hR : R ≤ 4) (hC : 0 < C) (hy : y < 2 ^ (R * C)) (h : Bits x y) : Bits (rd D R C x) (rd D R C y) := by
  cases D with
  | true => exact h
  | false =>
    have h1 : SubR R (row C x) (row C (rd false R C y)) := fun r hr i hi => bits_row (rd_ext hC hy) r hr i (bits_row (R := R) h r hr i hi)
    have h2 := h1.inN (closed_rd hR hC) R
    refine bits_enc hC (inN_lt (row_lt C x) R) (inN_lt (row_lt C y) R) fun r hr i hi => ?_
    have := h2 r hr i hi
    rwa [row_rd hC hr] at this
theorem bits_eq (h : Bits x y) (k : Bits y x) : x = y := by
  apply Nat.eq_of_testBit_eq; intro i
  cases h1 : x.testBit i with
  | true => rw [h i h1]
  | false =>
    cases h2 : y.testBit i with
    | false => rfl
    | true => rw [k i h2] at h1; cases h1
end

/-! ### without a key -/
/-- The bits of a that are not in b. -/
def anot (a b : Nat) : Nat := a ^^^ (a &&& b)
theorem anot_bit (a b i : Nat) : (anot a b).testBit i = (a.testBit i && !b.testBit i) := by
  unfold anot; rw [Nat.testBit_xor, Nat.testBit_and]; cases a.testBit i <;> cases b.testBit i <;> rfl
theorem anot_lt {a b n : Nat} (h : a < 2 ^ n) : anot a b < 2 ^ n := Nat.xor_lt_two_pow h (Nat.lt_of_le_of_lt Nat.and_le_left h)
theorem anot_key (a k i : Nat) : (anot a (2 ^ k)).testBit i = (a.testBit i && decide (i ≠ k)) := by
  rw [anot_bit, Nat.testBit_two_pow]
  by_cases h : k = i
  · subst h; simp
  · simp [h, Ne.symm h]
theorem anot_zero {a b : Nat} : anot a b = 0 ↔ Bits a b := by
  constructor
  · intro h i hi
    cases hb : b.testBit i with
    | true => rfl
    | false =>
      have := anot_bit a b i
      rw [h, hi, hb] at this; simp at this
  · intro h
    apply Nat.eq_of_testBit_eq; intro i
    rw [anot_bit, Nat.zero_testBit]
    cases ha : a.testBit i with
    | false => rfl
    | true => rw [h i ha]; rfl
/-- Is there a reading that is the same without key K? -/
def alt (D : Bool) (R C X K : Nat) : Bool := X.testBit K && decide (rd D R C (anot X (2 ^ K)) = X)
/-- The keys that are certain, of the first n. -/
def clr (D : Bool) (R C X : Nat) : Nat → Nat
  | 0 => 0
  | n + 1 => if X.testBit n && !alt D R C X n then clr D R C X n ||| 2 ^ n else clr D R C X n
theorem clr_bit (D : Bool) (R C X : Nat) : ∀ n i, (clr D R C X n).testBit i = (decide (i < n) && X.testBit i && !alt D R C X i)
  | 0, i => by simp [clr]
  | n + 1, i => by
    rw [clr]
    have ih := clr_bit D R C X n i
    by_cases e : i = n
    · subst e
      split
      · rename_i h
        rw [Nat.testBit_or, Nat.testBit_two_pow_self, Bool.or_true, decide_eq_true (by omega), Bool.true_and, h]
      · rename_i h
        rw [ih, decide_eq_false (by omega), decide_eq_true (by omega), Bool.true_and]
        simp only [Bool.false_and]
        simpa using h
    · have h2 : (2 ^ n).testBit i = false := by rw [Nat.testBit_two_pow]; simp; omega
      have h3 : decide (i < n + 1) = decide (i < n) := by rw [Bool.eq_iff_iff]; simp; omega
      rw [h3, ← ih]
      split
      · rw [Nat.testBit_or, h2, Bool.or_false]
      · rfl
theorem clr_lt {D : Bool} {R C X k : Nat} (hX : X < 2 ^ k) : ∀ n, n ≤ k → clr D R C X n < 2 ^ k
  | 0, _ => Nat.two_pow_pos k
  | n + 1, h => by
    rw [clr]
    split
    · exact Nat.or_lt_two_pow (clr_lt hX n (by omega)) (Nat.pow_lt_pow_right (by omega) (by omega))
    · exact clr_lt hX n (by omega)
theorem clr_sub {D : Bool} {R C X n : Nat} : Bits (clr D R C X n) X := by
  intro i hi
  rw [clr_bit, Bool.and_eq_true, Bool.and_eq_true] at hi
  exact hi.1.2
/-- Whoever is pressed: all that is certain of what is read is pressed. -/
theorem clr_pressed {D : Bool} {R C a n : Nat} (hR : R ≤ 4) (hC : 0 < C) (ha : a < 2 ^ (R * C)) : Bits (clr D R C (rd D R C a) n) a := by
  intro i hi
  rw [clr_bit, Bool.and_eq_true, Bool.and_eq_true] at hi
  obtain ⟨⟨_, hr⟩, hn⟩ := hi
  cases h : a.testBit i with
  | true => rfl
  | false =>
    exfalso
    have h1 : Bits a (anot (rd D R C a) (2 ^ i)) := by
      intro j hj
      rw [anot_key, rd_ext hC ha j hj]
      simp only [Bool.true_and, decide_eq_true_eq]
      rintro rfl
      rw [h] at hj; cases hj
    have hl : rd D R C a < 2 ^ (R * C) := rd_lt ha
    have h2 : Bits (anot (rd D R C a) (2 ^ i)) (rd D R C a) := by
      intro j hj
      rw [anot_key, Bool.and_eq_true] at hj
      exact hj.1
    have h3 := rd_mono (D := D) hR hC (anot_lt (b := 2 ^ i) hl) h1
    have h4 := rd_mono (D := D) hR hC hl h2
    rw [rd_rd hR hC ha] at h4
    have h5 : rd D R C (anot (rd D R C a) (2 ^ i)) = rd D R C a := bits_eq h4 h3
    have : alt D R C (rd D R C a) i = true := by unfold alt; rw [hr, h5]; simp
    rw [this] at hn; cases hn
/-- How many bits. -/
def pop (x : Nat) : Nat → Nat
  | 0 => 0
  | n + 1 => pop x n + if x.testBit n then 1 else 0
theorem pop_mono (x : Nat) : ∀ {m n : Nat}, m ≤ n → pop x m ≤ pop x n
  | m, 0, h => by obtain rfl : m = 0 := by omega
                  exact Nat.le_refl _
  | m, n + 1, h => by
    by_cases e : m = n + 1
    · subst e; exact Nat.le_refl _
    · have := pop_mono x (m := m) (n := n) (by omega)
      rw [pop]; omega
theorem pop_pos {x i n : Nat} (hi : x.testBit i = true) (h : i < n) : pop x i + 1 ≤ pop x n := by
  have h1 : pop x (i + 1) = pop x i + 1 := by rw [pop, hi]; rfl
  rw [← h1]; exact pop_mono x h
/-- Three bits in three places. -/
theorem pop_three {x a b c n : Nat} (ha : x.testBit a = true) (hb : x.testBit b = true) (hc : x.testBit c = true) (h1 : a < b) (h2 : b < c) (h3 : c < n) : 3 ≤ pop x n := by
  have := pop_pos ha h1
  have := pop_pos hb h2
  have := pop_pos hc h3
  omega
theorem pop_three_any {x a b c n : Nat} (ha : x.testBit a = true) (hb : x.testBit b = true) (hc : x.testBit c = true) (h1 : a ≠ b) (h2 : b ≠ c) (h3 : a ≠ c) (ka : a < n) (kb : b < n) (kc : c < n) : 3 ≤ pop x n := by
  rcases Nat.lt_or_gt_of_ne h1 with u | u <;> rcases Nat.lt_or_gt_of_ne h2 with v | v <;> rcases Nat.lt_or_gt_of_ne h3 with t | t
  · exact pop_three ha hb hc u v kc
  · omega
  · exact pop_three ha hc hb t v kb
  · exact pop_three hc ha hb t u kb
  · exact pop_three hb ha hc u t kc
  · exact pop_three hb hc ha v t ka
  · omega
  · exact pop_three hc hb ha v u ka
/-- With less than three keys nothing else is read. -/
theorem rd_few {D : Bool} {R C x n : Nat} (hC : 0 < C) (hx : x < 2 ^ (R * C)) (hn : R * C ≤ n) (hp : pop x n < 3) : rd D R C x = x := by
  refine rd_of_closed hC hx fun a b ha hb hne i hi => ?_
  obtain ⟨c, h1, h2⟩ := and_ne.1 hne
  cases h : (row C x a).testBit i with
  | true => rfl
  | false =>
    exfalso
    rw [row_bit, Bool.and_eq_true, decide_eq_true_eq] at h1 h2 hi
    rw [row_bit, decide_eq_true hi.1, Bool.true_and] at h
    have hab : a ≠ b := by
      rintro rfl
      rw [hi.2] at h; cases h
    have hci : c ≠ i := by
      rintro rfl
      rw [h1.2] at h; cases h
    have lt : ∀ r j, r < R → j < C → r * C + j < R * C := fun r j hr hj => by
      have : (r + 1) * C ≤ R * C := Nat.mul_le_mul_right _ hr
      rw [Nat.add_mul] at this; omega
    have ne : a * C + c ≠ b * C + c := by
      intro e
      exact hab (Nat.mul_right_cancel hC (by omega))
    have ne2 : a * C + c ≠ b * C + i := by
      intro e
      rcases Nat.lt_or_gt_of_ne hab with u | u
      · have : (a + 1) * C ≤ b * C := Nat.mul_le_mul_right _ u
        rw [Nat.add_mul] at this; omega
      · have : (b + 1) * C ≤ a * C := Nat.mul_le_mul_right _ u
        rw [Nat.add_mul] at this; omega
    have := pop_three_any h1.2 h2.2 hi.2 ne (by omega) ne2 (Nat.lt_of_lt_of_le (lt a c ha h1.1) hn) (Nat.lt_of_lt_of_le (lt b c hb h2.1) hn) (Nat.lt_of_lt_of_le (lt b i hb hi.1) hn)
    omega
end Go.Proofs.Ytmhpepicmnjmgaa.MM
