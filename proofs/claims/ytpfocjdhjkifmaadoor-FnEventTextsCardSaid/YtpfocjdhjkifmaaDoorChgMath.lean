/- The plain mathematics of changes: the last stable value searched from behind is the one read forward; changes are counted and spaced. Conditions: none; no program in sight. -/
import Derived.Test.YtpfocjdhjkifmaaDoorDebMath
namespace Go.Proofs.YtpfocjdhjkifmaaDoor.DB

/-! ### the last stable value, from behind -/
def stabAt (time : Nat) (f : Nat → Bool) (i : Nat) : Prop := time ≤ i + 1 ∧ ∀ j, j < time → f (i - j) = f i
/-- The reading after n bits of f. -/
def lsTo (time : Nat) (f : Nat → Bool) : Nat → Ls
  | 0 => ls0
  | n + 1 => lsStep time (lsTo time f n) (f n)
theorem lsTo_prev (time : Nat) (f : Nat → Bool) (n : Nat) : (lsTo time f (n + 1)).prev = f n := rfl
theorem lsTo_run_pos (time : Nat) (f : Nat → Bool) (n : Nat) : 0 < (lsTo time f (n + 1)).run := by
  simp only [lsTo, lsStep]; split <;> omega
theorem lsTo_run (time : Nat) (f : Nat → Bool) : ∀ n t, 1 ≤ t → (t ≤ (lsTo time f (n + 1)).run ↔ t ≤ n + 1 ∧ ∀ j, j < t → f (n - j) = f n)
  | 0, t, h => by
    have : (lsTo time f 1).run = 1 := by simp [lsTo, lsStep, ls0]
    rw [this]
    constructor
    · intro ht
      refine ⟨by omega, fun j _ => by rw [Nat.zero_sub]⟩
    · intro ⟨ht, _⟩; omega
  | n + 1, t, h => by
    have e : (lsTo time f (n + 2)).run = if f (n + 1) = f n then (lsTo time f (n + 1)).run + 1 else 1 := by
      show (lsStep time (lsTo time f (n + 1)) (f (n + 1))).run = _
      simp only [lsStep, lsTo_prev]
      have := lsTo_run_pos time f n
      simp [this]
    rw [e]
    by_cases t1 : t = 1
    · subst t1
      constructor
      · intro _
        refine ⟨by omega, fun j hj => ?_⟩
        obtain rfl : j = 0 := by omega
        rfl
      · intro _; split <;> omega
    · obtain ⟨u, rfl⟩ : ∃ u, t = u + 1 := ⟨t - 1, by omega⟩
      by_cases hb : f (n + 1) = f n
      · rw [if_pos hb, Nat.add_le_add_iff_right, lsTo_run time f n u (by omega)]
        constructor
        · rintro ⟨h1, h2⟩
          refine ⟨by omega, fun j hj => ?_⟩
          cases j with
          | zero => rfl
          | succ j => rw [hb, ← h2 j (by omega)]; congr 1; omega
        · rintro ⟨h1, h2⟩
          refine ⟨by omega, fun j hj => ?_⟩
          have := h2 (j + 1) (by omega)
          rw [hb] at this
          rw [← this]; congr 1; omega
      · rw [if_neg hb]
        constructor
        · intro h1; omega
        · rintro ⟨h1, h2⟩
          have := h2 1 (by omega)
          exact absurd this.symm hb
theorem lsTo_stab (time : Nat) (ht : 1 ≤ time) (f : Nat → Bool) (n : Nat) : time ≤ (lsTo time f (n + 1)).run ↔ stabAt time f n := lsTo_run time f n time ht
/-- Where the last sample is stable, that is the answer; else the answer is the one before. -/
theorem lsTo_yes (time : Nat) (ht : 1 ≤ time) (f : Nat → Bool) (n : Nat) (h : stabAt time f n) : (lsTo time f (n + 1)).value = f n ∧ (lsTo time f (n + 1)).found = true := by
  have h1 := (lsTo_stab time ht f n).2 h
  simp only [lsTo, lsStep] at h1 ⊢
  exact ⟨if_pos h1, if_pos h1⟩
theorem lsTo_no (time : Nat) (ht : 1 ≤ time) (f : Nat → Bool) (n : Nat) (h : ¬ stabAt time f n) : (lsTo time f (n + 1)).value = (lsTo time f n).value ∧ (lsTo time f (n + 1)).found = (lsTo time f n).found := by
  have h1 := fun x => h ((lsTo_stab time ht f n).1 x)
  simp only [lsTo, lsStep] at h1 ⊢
  exact ⟨if_neg h1, if_neg h1⟩
theorem lsTo_short (time : Nat) (ht : 1 ≤ time) (f : Nat → Bool) : ∀ n, n < time → (lsTo time f n).value = false ∧ (lsTo time f n).found = false
  | 0, _ => ⟨rfl, rfl⟩
  | n + 1, h => by
    have h1 := lsTo_no time ht f n (fun s => by have := s.1; omega)
    have h2 := lsTo_short time ht f n (by omega)
    exact ⟨h1.1.trans h2.1, h1.2.trans h2.2⟩
theorem lsTo_lsRun (time : Nat) (l : List Bool) : ∀ n, n ≤ l.length → lsTo time (fun i => l.getD i false) n = lsRun time (l.take n)
  | 0, _ => rfl
  | n + 1, h => by
    rw [List.take_succ_eq_append_getElem (by omega), lsRun_snoc, ← lsTo_lsRun time l n (by omega)]
    show lsStep time _ (l.getD n false) = _
    rw [List.getD_eq_getElem?_getD, List.getElem?_eq_getElem (by omega)]; rfl

/-! ### changes -/
def prev (f : Nat → Bool) : Nat → Bool
  | 0 => false
  | n + 1 => f n
def cnt (f : Nat → Bool) : Nat → Nat
  | 0 => 0
  | n + 1 => if f n = prev f n then cnt f n else cnt f n + 1
def chs (f : Nat → Bool) : Nat → List Nat
  | 0 => []
  | n + 1 => if f n = prev f n then chs f n else chs f n ++ [n]
theorem chs_length (f : Nat → Bool) : ∀ n, (chs f n).length = cnt f n
  | 0 => rfl
  | n + 1 => by rw [chs, cnt]; split <;> simp [chs_length f n]
theorem cnt_le (f : Nat → Bool) : ∀ n, cnt f n ≤ n
  | 0 => Nat.le_refl _
  | n + 1 => by have := cnt_le f n; rw [cnt]; split <;> omega
theorem chs_lt (f : Nat → Bool) : ∀ n, ∀ p ∈ chs f n, p < n
  | 0, p, h => by simp [chs] at h
  | n + 1, p, h => by
    rw [chs] at h
    split at h
    · have := chs_lt f n p h; omega
    · rw [List.mem_append, List.mem_singleton] at h
      rcases h with h | rfl
      · have := chs_lt f n p h; omega
      · omega
theorem cnt_congr {f g : Nat → Bool} : ∀ n, (∀ i, i < n → f i = g i) → cnt f n = cnt g n
  | 0, _ => rfl
  | n + 1, h => by
    have h1 := cnt_congr n (fun i hi => h i (by omega))
    have h2 : prev f n = prev g n := by
      cases n with
      | zero => rfl
      | succ m => exact h m (by omega)
    rw [cnt, cnt, h1, h2, h n (by omega)]
/-- What follows the samples, or stays, changes no oftener. -/
theorem fewer {v s : Nat → Bool} : ∀ n, (∀ i, i < n → s i = prev s i ∨ s i = v i) → cnt s n ≤ cnt v n ∧ (prev s n ≠ prev v n → cnt s n + 1 ≤ cnt v n)
  | 0, _ => ⟨Nat.le_refl _, fun h => absurd rfl h⟩
  | n + 1, h => by
    obtain ⟨h1, h2⟩ := fewer (v := v) (s := s) n (fun i hi => h i (by omega))
    have h3 := h n (by omega)
    rw [cnt, cnt]
    show _ ∧ (s n ≠ v n → _)
    generalize prev s n = a at *
    generalize prev v n = b at *
    generalize s n = x at *
    generalize v n = y at *
    by_cases hab : a = b
    · subst hab
      rcases h3 with rfl | rfl
      · simp only [if_true]
        by_cases e : y = x
        · subst e; simp; exact h1
        · rw [if_neg e]; exact ⟨by omega, fun _ => by omega⟩
      · split
        · exact ⟨h1, fun k => absurd rfl k⟩
        · exact ⟨by omega, fun k => absurd rfl k⟩
    · have h4 := h2 hab
      rcases h3 with rfl | rfl
      · simp only [if_true]
        by_cases e : y = b
        · subst e; simp; exact ⟨by omega, fun _ => h4⟩
        · rw [if_neg e]
          have : y = x := by cases x <;> cases y <;> cases b <;> simp_all
          exact ⟨by omega, fun k => absurd this.symm k⟩
      · split
        · split
          · exact ⟨h1, fun k => absurd rfl k⟩
          · exact ⟨by omega, fun k => absurd rfl k⟩
        · split
          · exact ⟨h4, fun k => absurd rfl k⟩
          · exact ⟨by omega, fun k => absurd rfl k⟩
/-- Distances. -/
def Spaced (n : Int) (l : List Nat) : Prop := ∀ i, i + 1 < l.length → n ≤ ((l.getD (i + 1) 0 : Nat) : Int) - ((l.getD i 0 : Nat) : Int)
theorem spaced_nil (n : Int) : Spaced n [] := fun i h => by simp at h
theorem getD_snoc_lt {α : Type} (l : List α) (x d : α) {i : Nat} (h : i < l.length) : (l ++ [x]).getD i d = l.getD i d := by
  rw [List.getD_eq_getElem?_getD, List.getD_eq_getElem?_getD, List.getElem?_append_left h]
theorem getD_snoc_eq {α : Type} (l : List α) (x d : α) : (l ++ [x]).getD l.length d = x := by
  rw [List.getD_eq_getElem?_getD, List.getElem?_append_right (Nat.le_refl _)]; simp
theorem spaced_snoc {n : Int} {l : List Nat} {q : Nat} : Spaced n (l ++ [q]) ↔ Spaced n l ∧ (0 < l.length → n ≤ (q : Int) - ((l.getD (l.length - 1) 0 : Nat) : Int)) := by
  constructor
  · intro h
    refine ⟨fun i hi => ?_, fun hl => ?_⟩
    · have := h i (by simp; omega)
      rwa [getD_snoc_lt _ _ _ hi, getD_snoc_lt _ _ _ (by omega)] at this
    · have := h (l.length - 1) (by simp; omega)
      rwa [show l.length - 1 + 1 = l.length from by omega, getD_snoc_eq, getD_snoc_lt _ _ _ (by omega)] at this
  · rintro ⟨h1, h2⟩ i hi
    rw [List.length_append, List.length_singleton] at hi
    by_cases e : i + 1 = l.length
    · have := h2 (by omega)
      rw [e, getD_snoc_eq, getD_snoc_lt _ _ _ (by omega)]
      rwa [show l.length - 1 = i from by omega] at this
    · rw [getD_snoc_lt _ _ _ (by omega), getD_snoc_lt _ _ _ (by omega)]
      exact h1 i (by omega)
/-- An age that grows by at most one a step, is nought behind a change, and has reached n - 1 ahead of one: changes lie n apart. -/
theorem spaced_of_age {s : Nat → Bool} {a : Nat → Int} {n : Int} : ∀ m, (∀ i, i < m → a (i + 1) ≤ a i + 1 ∧ (s i ≠ prev s i → n ≤ a i + 1 ∧ a (i + 1) ≤ 0)) →
    Spaced n (chs s m) ∧ (0 < (chs s m).length → a m ≤ (m : Int) - 1 - (((chs s m).getD ((chs s m).length - 1) 0 : Nat) : Int))
  | 0, _ => ⟨spaced_nil n, fun h => by simp [chs] at h⟩
  | m + 1, h => by
    obtain ⟨h1, h2⟩ := spaced_of_age (s := s) (a := a) (n := n) m (fun i hi => h i (by omega))
    obtain ⟨h3, h4⟩ := h m (by omega)
    rw [chs]
    by_cases e : s m = prev s m
    · rw [if_pos e]
      exact ⟨h1, fun hl => by have := h2 hl; omega⟩
    · rw [if_neg e]
      obtain ⟨h5, h6⟩ := h4 e
      refine ⟨spaced_snoc.2 ⟨h1, fun hl => by have := h2 hl; omega⟩, fun _ => ?_⟩
      rw [List.length_append, List.length_singleton, Nat.add_sub_cancel, getD_snoc_eq]
      omega
/-- What a debouncer shows of key k, and its age, after i samples of l. -/
theorem shows_getD (d : St) (l : List Nat) : ∀ i, i < l.length → (shows d l).getD i 0 = (run d (l.take (i + 1))).shown := by
  induction l generalizing d with
  | nil => intro i h; simp at h
  | cons x l ih =>
    intro i hi
    cases i with
    | zero => simp [shows, run]
    | succ i =>
      simp only [List.length_cons] at hi
      have := ih (step d x) i (by omega)
      simpa [shows, run] using this
theorem run_take_succ (d : St) (l : List Nat) (i : Nat) (h : i < l.length) : run d (l.take (i + 1)) = step (run d (l.take i)) (l.getD i 0) := by
  rw [List.take_succ_eq_append_getElem h, run_append, List.getD_eq_getElem?_getD, List.getElem?_eq_getElem h]; rfl
theorem prev_shown (d : St) (hs : d.shown = 0) (l : List Nat) (k : Nat) : ∀ i, i ≤ l.length → prev (fun i => ((shows d l).getD i 0).testBit k) i = (run d (l.take i)).shown.testBit k
  | 0, _ => by simp [prev, run, hs]
  | i + 1, h => by
    show ((shows d l).getD i 0).testBit k = _
    rw [shows_getD d l i (by omega)]
theorem fewer_shown {d : St} (hd : d.Ok) (hs : d.shown = 0) (l : List Nat) (hx : ∀ x ∈ l, x < 2 ^ d.keys) (k : Nat) (hk : k < d.keys) :
    cnt (fun i => ((shows d l).getD i 0).testBit k) l.length ≤ cnt (fun i => (l.getD i 0).testBit k) l.length := by
  refine (fewer _ fun i hi => ?_).1
  rw [prev_shown d hs l k i (by omega)]
  show ((shows d l).getD i 0).testBit k = _ ∨ ((shows d l).getD i 0).testBit k = _
  rw [shows_getD d l i hi, run_take_succ d l i hi]
  obtain ⟨_, _, _, e3⟩ := run_ok hd (l.take i) (fun y hy => hx y (List.mem_of_mem_take hy))
  rw [step_bit _ _ k (by rw [e3]; exact hk)]
  split
  · exact .inr rfl
  · exact .inl rfl
theorem spaced_shown {d : St} (hd : d.Ok) (hs : d.shown = 0) (he : d.kind = 2) (l : List Nat) (hx : ∀ x ∈ l, x < 2 ^ d.keys) (k : Nat) (hk : k < d.keys) :
    Spaced d.time (chs (fun i => ((shows d l).getD i 0).testBit k) l.length) := by
  refine (spaced_of_age (a := fun i => (run d (l.take i)).ages.getD k 0) _ fun i hi => ?_).1
  rw [prev_shown d hs l k i (by omega)]
  show (run d (l.take (i + 1))).ages.getD k 0 ≤ _ ∧ (((shows d l).getD i 0).testBit k ≠ _ → _ ∧ (run d (l.take (i + 1))).ages.getD k 0 ≤ 0)
  rw [shows_getD d l i hi, run_take_succ d l i hi]
  obtain ⟨o, e1, e2, e3⟩ := run_ok hd (l.take i) (fun y hy => hx y (List.mem_of_mem_take hy))
  rw [step_bit _ _ k (by rw [e3]; exact hk), step_age _ _ k (by rw [e3]; exact hk)]
  generalize run d (l.take i) = e at *
  have hr := getD_rng e.ages o.ages k
  have h1 : age1 e.kind (l.getD i 0) e.last k (e.ages.getD k 0) = min (e.ages.getD k 0 + 1) 99 := by
    unfold age1; rw [if_neg (by rw [e1, he]; omega)]
  unfold age2
  rw [h1, e1, he]
  constructor
  · split <;> omega
  · intro hne
    split at hne
    · rename_i hf
      rw [hf]
      unfold flip at hf
      rw [Bool.and_eq_true, decide_eq_true_eq] at hf
      have h2 := hf.1
      rw [e1, he] at h1
      rw [h1, e2] at h2
      refine ⟨by omega, by simp⟩
    · exact absurd rfl hne
end Go.Proofs.YtpfocjdhjkifmaaDoor.DB
