/- The plain mathematics of the debouncer: one step, a run of steps, the last stable value, changes and their distances. Conditions: none; no program in sight. -/
namespace Go.Proofs.YtpfocjdhjkifmaaDoor.DB

/-- The age of a key before the look at what is shown. -/
def age1 (kind raw last k : Nat) (age : Int) : Int := if (kind = 0 ∧ raw.testBit k ≠ last.testBit k) ∨ (kind = 1 ∧ raw ≠ last) then 1 else min (age + 1) 99
def flip (kind time raw shown last k : Nat) (age : Int) : Bool := decide ((time : Int) ≤ age1 kind raw last k age) && (raw.testBit k != shown.testBit k)
def age2 (kind time raw shown last k : Nat) (age : Int) : Int := if flip kind time raw shown last k age = true ∧ kind = 2 then 0 else age1 kind raw last k age
def shownTo (kind time raw shown last : Nat) (ages : List Int) : Nat → Nat
  | 0 => shown
  | k + 1 => if flip kind time raw shown last k (ages.getD k 0) then shownTo kind time raw shown last ages k ^^^ 2 ^ k else shownTo kind time raw shown last ages k
def agesTo (kind time raw shown last : Nat) (ages : List Int) : Nat → List Int
  | 0 => []
  | k + 1 => agesTo kind time raw shown last ages k ++ [age2 kind time raw shown last k (ages.getD k 0)]

/-- A valid debouncer's state. -/
structure St where
  kind : Nat
  time : Nat
  keys : Nat
  shown : Nat
  last : Nat
  ages : List Int
structure St.Ok (d : St) : Prop where
  kind : d.kind ≤ 2
  time0 : 1 ≤ d.time
  time1 : d.time ≤ 20
  keys0 : 1 ≤ d.keys
  keys1 : d.keys ≤ 24
  len : d.ages.length = d.keys
  shown : d.shown < 2 ^ d.keys
  last : d.last < 2 ^ d.keys
  ages : ∀ a ∈ d.ages, 0 ≤ a ∧ a ≤ 99
def step (d : St) (raw : Nat) : St :=
  { d with shown := shownTo d.kind d.time raw d.shown d.last d.ages d.keys, last := raw, ages := agesTo d.kind d.time raw d.shown d.last d.ages d.keys }
def run (d : St) : List Nat → St
  | [] => d
  | x :: r => run (step d x) r
def shows (d : St) : List Nat → List Nat
  | [] => []
  | x :: r => (step d x).shown :: shows (step d x) r
theorem run_append (d : St) (l r : List Nat) : run d (l ++ r) = run (run d l) r := by
  induction l generalizing d with
  | nil => rfl
  | cons x l ih => exact ih _
theorem shows_append (d : St) (l r : List Nat) : shows d (l ++ r) = shows d l ++ shows (run d l) r := by
  induction l generalizing d with
  | nil => rfl
  | cons x l ih => simp [shows, run, ih]
theorem shows_length (d : St) (l : List Nat) : (shows d l).length = l.length := by
  induction l generalizing d with
  | nil => rfl
  | cons x l ih => simp [shows, ih]

section
variable (kind time raw shown last : Nat) (ages : List Int)
theorem age1_rng {k : Nat} {a : Int} (h : 0 ≤ a ∧ a ≤ 99) : 0 ≤ age1 kind raw last k a ∧ age1 kind raw last k a ≤ 99 := by
  unfold age1; split <;> omega
theorem age2_rng {k : Nat} {a : Int} (h : 0 ≤ a ∧ a ≤ 99) : 0 ≤ age2 kind time raw shown last k a ∧ age2 kind time raw shown last k a ≤ 99 := by
  have := age1_rng kind raw last (k := k) h
  unfold age2; split <;> omega
theorem agesTo_length : ∀ n, (agesTo kind time raw shown last ages n).length = n
  | 0 => rfl
  | n + 1 => by rw [agesTo, List.length_append, agesTo_length n]; rfl
theorem agesTo_getD : ∀ n k, k < n → (agesTo kind time raw shown last ages n).getD k 0 = age2 kind time raw shown last k (ages.getD k 0)
  | 0, k, h => by omega
  | n + 1, k, h => by
    rw [agesTo, List.getD_eq_getElem?_getD]
    by_cases e : k < n
    · rw [List.getElem?_append_left (by rw [agesTo_length]; exact e), ← List.getD_eq_getElem?_getD, agesTo_getD n k e]
    · obtain rfl : k = n := by omega
      rw [List.getElem?_append_right (by rw [agesTo_length]; omega), agesTo_length]; simp
theorem getD_rng (h : ∀ a ∈ ages, 0 ≤ a ∧ a ≤ 99) (k : Nat) : 0 ≤ ages.getD k 0 ∧ ages.getD k 0 ≤ 99 := by
  rw [List.getD_eq_getElem?_getD]
  cases e : ages[k]? with
  | none => simp
  | some a => simpa using h a (List.mem_of_getElem? e)
theorem agesTo_rng (h : ∀ a ∈ ages, 0 ≤ a ∧ a ≤ 99) : ∀ n, ∀ a ∈ agesTo kind time raw shown last ages n, 0 ≤ a ∧ a ≤ 99
  | 0, a, ha => by simp [agesTo] at ha
  | n + 1, a, ha => by
    rw [agesTo, List.mem_append, List.mem_singleton] at ha
    rcases ha with ha | rfl
    · exact agesTo_rng h n a ha
    · exact age2_rng _ _ _ _ _ (getD_rng ages h n)
theorem shownTo_bit : ∀ n k, (shownTo kind time raw shown last ages n).testBit k = (if k < n then xor (shown.testBit k) (flip kind time raw shown last k (ages.getD k 0)) else shown.testBit k)
  | 0, k => by simp [shownTo]
  | n + 1, k => by
    rw [shownTo]
    by_cases e : k = n
    · subst e
      split
      · rename_i h; rw [Nat.testBit_xor, shownTo_bit k k, Nat.testBit_two_pow_self, if_neg (by omega), if_pos (by omega), h]
      · rename_i h; have h' : flip kind time raw shown last k (ages.getD k 0) = false := by simpa using h
        rw [shownTo_bit k k, if_neg (by omega), if_pos (by omega), h', Bool.xor_false]
    · have h2 : (2 ^ n).testBit k = false := by rw [Nat.testBit_two_pow]; simp; omega
      split
      · rw [Nat.testBit_xor, h2, Bool.xor_false, shownTo_bit n k]
        by_cases hk : k < n
        · rw [if_pos hk, if_pos (by omega)]
        · rw [if_neg hk, if_neg (by omega)]
      · rw [shownTo_bit n k]
        by_cases hk : k < n
        · rw [if_pos hk, if_pos (by omega)]
        · rw [if_neg hk, if_neg (by omega)]
theorem shownTo_lt {K : Nat} (hs : shown < 2 ^ K) : ∀ n, n ≤ K → shownTo kind time raw shown last ages n < 2 ^ K
  | 0, _ => hs
  | n + 1, h => by
    rw [shownTo]
    have h1 := shownTo_lt hs n (by omega)
    split
    · exact Nat.xor_lt_two_pow h1 (Nat.pow_lt_pow_right (by omega) (by omega))
    · exact h1
end

theorem step_ok {d : St} (h : d.Ok) {raw : Nat} (hr : raw < 2 ^ d.keys) : (step d raw).Ok :=
  ⟨h.kind, h.time0, h.time1, h.keys0, h.keys1, agesTo_length _ _ _ _ _ _ _, shownTo_lt _ _ _ _ _ _ h.shown _ (Nat.le_refl _), hr, agesTo_rng _ _ _ _ _ _ h.ages _⟩
theorem step_bit (d : St) (raw k : Nat) (hk : k < d.keys) :
    (step d raw).shown.testBit k = if flip d.kind d.time raw d.shown d.last k (d.ages.getD k 0) then raw.testBit k else d.shown.testBit k := by
  show (shownTo _ _ _ _ _ _ _).testBit k = _
  rw [shownTo_bit, if_pos hk]
  cases e : flip d.kind d.time raw d.shown d.last k (d.ages.getD k 0) with
  | false => simp
  | true =>
    unfold flip at e
    rw [Bool.and_eq_true] at e
    have := e.2
    revert this
    cases raw.testBit k <;> cases d.shown.testBit k <;> simp
theorem step_age (d : St) (raw k : Nat) (hk : k < d.keys) : (step d raw).ages.getD k 0 = age2 d.kind d.time raw d.shown d.last k (d.ages.getD k 0) := agesTo_getD _ _ _ _ _ _ _ _ hk
theorem run_ok {d : St} (h : d.Ok) : ∀ l : List Nat, (∀ x ∈ l, x < 2 ^ d.keys) → (run d l).Ok ∧ (run d l).kind = d.kind ∧ (run d l).time = d.time ∧ (run d l).keys = d.keys
  | l, hl => by
    induction l generalizing d with
    | nil => exact ⟨h, rfl, rfl, rfl⟩
    | cons x l ih => exact ih (d := step d x) (step_ok h (hl x (by simp))) (fun y hy => hl y (by simp [hy]))
/-- A debouncer as it is made. -/
def new (kind time keys : Nat) : St := { kind := kind, time := time, keys := keys, shown := 0, last := 0, ages := List.replicate keys 99 }
theorem new_ok {kind time keys : Nat} (h1 : kind ≤ 2) (h2 : 1 ≤ time) (h3 : time ≤ 20) (h4 : 1 ≤ keys) (h5 : keys ≤ 24) : (new kind time keys).Ok :=
  ⟨h1, h2, h3, h4, h5, by simp [new], Nat.two_pow_pos _, Nat.two_pow_pos _, fun a ha => by rw [new, List.mem_replicate] at ha; omega⟩

/-! ### the same sample for so many steps -/
theorem steady_step (d : St) (raw k j : Nat) (hk : k < d.keys) (ht : d.time ≤ 20) (h0 : ∀ a ∈ d.ages, 0 ≤ a ∧ a ≤ 99)
    (hlast : j = 0 ∨ d.last = raw) (h : d.shown.testBit k = raw.testBit k ∨ (j : Int) ≤ d.ages.getD k 0) (hj : j < d.time) :
    (step d raw).shown.testBit k = raw.testBit k ∨ (((j + 1 : Nat) : Int) ≤ (step d raw).ages.getD k 0 ∧ j + 1 < d.time) := by
  rw [step_bit d raw k hk, step_age d raw k hk]
  have hr := getD_rng d.ages h0 k
  by_cases hs : d.shown.testBit k = raw.testBit k
  · left; split <;> simp [hs]
  · have h2 : (j : Int) ≤ d.ages.getD k 0 := by
      rcases h with h | h
      · exact absurd h hs
      · exact h
    have ha : ((j + 1 : Nat) : Int) ≤ age1 d.kind raw d.last k (d.ages.getD k 0) := by
      unfold age1
      split
      · rename_i hc
        rcases hlast with hl | hl
        · omega
        · rw [hl] at hc; simp at hc
      · omega
    cases e : flip d.kind d.time raw d.shown d.last k (d.ages.getD k 0) with
    | true => left; simp
    | false =>
      right
      unfold age2
      rw [e, if_neg (by simp)]
      refine ⟨ha, ?_⟩
      unfold flip at e
      rw [Bool.and_eq_false_iff] at e
      rcases e with e | e
      · rw [decide_eq_false_iff_not] at e; omega
      · revert e hs; cases raw.testBit k <;> cases d.shown.testBit k <;> simp
def stepN (d : St) (raw : Nat) : Nat → St
  | 0 => d
  | n + 1 => step (stepN d raw n) raw
theorem stepN_ok {d : St} (h : d.Ok) {raw : Nat} (hr : raw < 2 ^ d.keys) : ∀ n, (stepN d raw n).Ok ∧ (stepN d raw n).kind = d.kind ∧ (stepN d raw n).time = d.time ∧ (stepN d raw n).keys = d.keys
  | 0 => ⟨h, rfl, rfl, rfl⟩
  | n + 1 => by
    obtain ⟨h1, h2, h3, h4⟩ := stepN_ok h hr n
    exact ⟨step_ok h1 (by rw [h4]; exact hr), h2, h3, h4⟩
theorem steady {d : St} (h : d.Ok) {raw : Nat} (hr : raw < 2 ^ d.keys) : (stepN d raw d.time).shown = raw ∧ (stepN d raw d.time).last = raw := by
  have key : ∀ n, n ≤ d.time → ∀ k, k < d.keys → (stepN d raw n).shown.testBit k = raw.testBit k ∨ ((n : Int) ≤ (stepN d raw n).ages.getD k 0 ∧ n < d.time) := by
    intro n
    induction n with
    | zero =>
      intro _ k _
      right
      have := getD_rng d.ages h.ages k
      have := h.time0
      exact ⟨by simp only [stepN]; omega, by omega⟩
    | succ n ih =>
      intro hn k hk
      obtain ⟨o, _, e2, e3⟩ := stepN_ok h hr n
      have h1 := ih (by omega) k hk
      have h2 := steady_step (stepN d raw n) raw k n (by rw [e3]; exact hk) (by rw [e2]; exact h.time1) o.ages
        (by cases n with
            | zero => exact .inl rfl
            | succ m => exact .inr rfl)
        (by rcases h1 with h1 | h1
            · exact .inl h1
            · exact .inr h1.1) (by rw [e2]; omega)
      rw [e2] at h2
      exact h2
  obtain ⟨o, _, e2, e3⟩ := stepN_ok h hr d.time
  refine ⟨?_, ?_⟩
  · apply Nat.eq_of_testBit_eq; intro k
    by_cases hk : k < d.keys
    · rcases key d.time (Nat.le_refl _) k hk with h1 | h1
      · exact h1
      · omega
    · have p : 2 ^ d.keys ≤ 2 ^ k := Nat.pow_le_pow_right (by omega) (by omega)
      have h1 := o.shown
      rw [e3] at h1
      rw [Nat.testBit_lt_two_pow (by omega), Nat.testBit_lt_two_pow (by omega)]
  · have := h.time0
    cases e : d.time with
    | zero => omega
    | succ n => rfl

/-! ### the last stable value: a forward reading of the samples, one key's bit each -/
/-- (length of the run, value, found) after a list of bits. -/
structure Ls where
  run : Nat
  prev : Bool
  value : Bool
  found : Bool
def ls0 : Ls := ⟨0, false, false, false⟩
def lsStep (time : Nat) (s : Ls) (b : Bool) : Ls :=
  let r := if 0 < s.run ∧ b = s.prev then s.run + 1 else 1
  ⟨r, b, if time ≤ r then b else s.value, if time ≤ r then true else s.found⟩
def lsRun (time : Nat) (l : List Bool) : Ls := l.foldl (lsStep time) ls0
theorem lsRun_snoc (time : Nat) (l : List Bool) (b : Bool) : lsRun time (l ++ [b]) = lsStep time (lsRun time l) b := by simp [lsRun]
theorem lsRun_value (time : Nat) (l : List Bool) : (lsRun time l).found = false → (lsRun time l).value = false := by
  have key : ∀ (s : Ls), (s.found = false → s.value = false) → ∀ l : List Bool, (l.foldl (lsStep time) s).found = false → (l.foldl (lsStep time) s).value = false := by
    intro s hs l
    induction l generalizing s with
    | nil => exact hs
    | cons b l ih =>
      refine ih _ ?_
      show (if time ≤ (if 0 < s.run ∧ b = s.prev then s.run + 1 else 1) then true else s.found) = false → (if time ≤ (if 0 < s.run ∧ b = s.prev then s.run + 1 else 1) then b else s.value) = false
      by_cases ht : time ≤ (if 0 < s.run ∧ b = s.prev then s.run + 1 else 1)
      · rw [if_pos ht]; intro h; cases h
      · rw [if_neg ht, if_neg ht]; exact hs
  exact key ls0 (fun _ => rfl) l
theorem snoc_induction {α : Type} {P : List α → Prop} (h0 : P []) (hs : ∀ l a, P l → P (l ++ [a])) (l : List α) : P l := by
  have key : ∀ l : List α, P l.reverse := by
    intro l
    induction l with
    | nil => exact h0
    | cons a l ih => rw [List.reverse_cons]; exact hs _ _ ih
  have := key l.reverse
  rwa [List.reverse_reverse] at this
/-- A key that is debounced for itself: age and shown value follow the reading. -/
theorem stable_inv {d : St} (hd : d.Ok) (hk0 : d.kind = 0) (hs : d.shown = 0) (hl : d.last = 0) (k : Nat) (hk : k < d.keys) (ha : d.ages.getD k 0 = 99) (l : List Nat) (hx : ∀ x ∈ l, x < 2 ^ d.keys) :
    let s := lsRun d.time (l.map (·.testBit k)); let e := run d l
    e.shown.testBit k = s.value ∧ ((e.last.testBit k = s.prev ∧ 0 < s.run ∧ e.ages.getD k 0 = min (s.run : Int) 99) ∨ (e.last.testBit k = false ∧ s.prev = false ∧ s.value = false ∧ e.ages.getD k 0 = 99)) := by
  induction l using snoc_induction with
  | h0 => exact ⟨by simp [run, hs, lsRun, ls0], .inr ⟨by simp [run, hl], rfl, rfl, ha⟩⟩
  | hs l x ih =>
    have ih := ih (fun y hy => hx y (by simp [hy]))
    obtain ⟨o, e1, e2, e3⟩ := run_ok hd l (fun y hy => hx y (by simp [hy]))
    simp only [List.map_append, List.map_cons, List.map_nil, lsRun_snoc, run_append]
    simp only [] at ih
    generalize hS : lsRun d.time (l.map (·.testBit k)) = s at ih ⊢
    generalize hE : run d l = e at ih o e1 e2 e3 ⊢
    show (step e x).shown.testBit k = _ ∧ _
    simp only [run]
    rw [step_bit e x k (by rw [e3]; exact hk), step_age e x k (by rw [e3]; exact hk)]
    have hlast : (step e x).last = x := rfl
    rw [hlast]
    have ht0 := hd.time0
    have ht1 := hd.time1
    have hage : age1 e.kind x e.last k (e.ages.getD k 0) = if x.testBit k ≠ e.last.testBit k then 1 else min (e.ages.getD k 0 + 1) 99 := by
      unfold age1
      rw [e1, hk0]
      simp
    have hage2 : age2 e.kind e.time x e.shown e.last k (e.ages.getD k 0) = age1 e.kind x e.last k (e.ages.getD k 0) := by
      unfold age2
      rw [e1, hk0]; simp
    have hflip : (if flip e.kind e.time x e.shown e.last k (e.ages.getD k 0) = true then x.testBit k else e.shown.testBit k) = if (d.time : Int) ≤ age1 e.kind x e.last k (e.ages.getD k 0) then x.testBit k else e.shown.testBit k := by
      unfold flip
      rw [e2]
      generalize age1 e.kind x e.last k (e.ages.getD k 0) = a
      by_cases h : (d.time : Int) ≤ a
      · rw [if_pos h, decide_eq_true h, Bool.true_and]
        cases x.testBit k <;> cases e.shown.testBit k <;> simp
      · rw [if_neg h, decide_eq_false h]; simp
    rw [hflip, hage2]
    clear hflip hage2
    generalize age1 e.kind x e.last k (e.ages.getD k 0) = a at *
    generalize x.testBit k = xb at *
    obtain ⟨i1, i2⟩ := ih
    unfold lsStep
    simp only []
    rcases i2 with ⟨j1, j2, j3⟩ | ⟨j1, j2, j3, j4⟩
    · rw [j1, j3] at hage
      by_cases hb : xb = s.prev
      · have c1 : (0 < s.run ∧ xb = s.prev) := ⟨j2, hb⟩
        rw [if_neg (fun h => h hb)] at hage
        rw [if_pos c1]
        refine ⟨?_, .inl ⟨by trivial, by omega, by omega⟩⟩
        by_cases ht : d.time ≤ s.run + 1
        · rw [if_pos ht, if_pos (by omega)]
        · rw [if_neg ht, if_neg (by omega), i1]
      · have c1 : ¬ (0 < s.run ∧ xb = s.prev) := fun h => hb h.2
        rw [if_pos hb] at hage
        rw [if_neg c1]
        refine ⟨?_, .inl ⟨by trivial, by omega, by omega⟩⟩
        by_cases ht : d.time ≤ 1
        · rw [if_pos ht, if_pos (by omega)]
        · rw [if_neg ht, if_neg (by omega), i1]
    · rw [j1, j4] at hage
      cases xb with
      | false =>
        rw [if_neg (fun h => h rfl)] at hage
        refine ⟨?_, .inr ⟨by trivial, by trivial, ?_, by omega⟩⟩
        · rw [if_pos (by omega), j3]; simp
        · rw [j3]; simp
      | true =>
        have c1 : ¬ (0 < s.run ∧ true = s.prev) := by rw [j2]; simp
        rw [if_pos (by simp)] at hage
        rw [if_neg c1]
        refine ⟨?_, .inl ⟨by trivial, by omega, by omega⟩⟩
        by_cases ht : d.time ≤ 1
        · rw [if_pos ht, if_pos (by omega)]
        · rw [if_neg ht, if_neg (by omega), i1]
/-- FnStable's heart. -/
theorem stable {kind time keys : Nat} (h1 : kind = 0) (h2 : 1 ≤ time) (h3 : time ≤ 20) (h4 : 1 ≤ keys) (h5 : keys ≤ 24) (l : List Nat) (hx : ∀ x ∈ l, x < 2 ^ keys) (k : Nat) (hk : k < keys) :
    (run (new kind time keys) l).shown.testBit k = ((lsRun time (l.map (·.testBit k))).value && (lsRun time (l.map (·.testBit k))).found) := by
  have hn : (new kind time keys).ages.getD k 0 = 99 := by
    simp [new, List.getD_eq_getElem?_getD, hk]
  have := stable_inv (d := new kind time keys) (new_ok (by omega) h2 h3 h4 h5) h1 rfl rfl k hk hn l hx
  simp only [] at this
  rw [this.1]
  show (lsRun time _).value = _
  cases e : (lsRun time (l.map (·.testBit k))).found with
  | false => rw [lsRun_value _ _ e]; rfl
  | true => simp
end Go.Proofs.YtpfocjdhjkifmaaDoor.DB
