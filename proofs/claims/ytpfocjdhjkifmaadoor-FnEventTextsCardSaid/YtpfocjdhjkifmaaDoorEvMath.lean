/- The plain mathematics of events: changes between masks, the keys that are down after events, masks made of events again. Conditions: none; no program in sight. -/
import Derived.Test.YtpfocjdhjkifmaaDoorChgMath
namespace Go.Proofs.YtpfocjdhjkifmaaDoor.EV
open DB (prev cnt)

structure Ev where
  time : Int
  key : Int
  down : Bool
/-- The keys that are down after events. -/
def xo (d : Nat) (l : List Ev) : Nat := l.foldl (fun d e => d ^^^ 2 ^ e.key.toNat) d
theorem xo_append (d : Nat) (l r : List Ev) : xo d (l ++ r) = xo (xo d l) r := by simp [xo]
/-- The first n events are right, one behind the other: the keys that are down then. -/
def good (l : List Ev) (i : Nat) (d : Nat) : Bool :=
  let e := l.getD i ⟨0, 0, false⟩
  decide (0 ≤ e.time ∧ e.time ≤ 1000000 ∧ 0 ≤ e.key ∧ e.key ≤ 31) && (decide (i = 0) || decide ((l.getD (i - 1) ⟨0, 0, false⟩).time ≤ e.time)) && (e.down != d.testBit e.key.toNat)
def fw (l : List Ev) : Nat → Option Nat
  | 0 => some 0
  | i + 1 => match fw l i with
    | none => none
    | some d => if good l i d then some (d ^^^ 2 ^ (l.getD i ⟨0, 0, false⟩).key.toNat) else none
/-- All events are right. -/
def isEvs (l : List Ev) : Bool := decide (l.length ≤ 64) && (fw l l.length).isSome
def heldAfter (l : List Ev) : Nat := if isEvs l then xo 0 l else 0
theorem fw_xo (l : List Ev) : ∀ n d, n ≤ l.length → fw l n = some d → d = xo 0 (l.take n)
  | 0, d, _, h => by simp only [fw, Option.some.injEq] at h; subst h; rfl
  | n + 1, d, hn, h => by
    rw [fw] at h
    split at h
    · cases h
    · rename_i d' hd
      split at h
      · injection h with h
        subst h
        rw [List.take_succ_eq_append_getElem (by omega), xo_append, ← fw_xo l n d' (by omega) hd, List.getD_eq_getElem?_getD, List.getElem?_eq_getElem (by omega)]
        rfl
      · cases h
theorem fw_none (l : List Ev) {n : Nat} (h : fw l n = none) : ∀ m, n ≤ m → fw l m = none
  | 0, hm => by obtain rfl : n = 0 := by omega
                exact h
  | m + 1, hm => by
    by_cases e : n = m + 1
    · subst e; exact h
    · rw [fw, fw_none l h m (by omega)]
theorem fw_lt (l : List Ev) : ∀ n d, fw l n = some d → d < 2 ^ 32
  | 0, d, h => by simp [fw] at h; omega
  | n + 1, d, h => by
    rw [fw] at h
    split at h
    · cases h
    · rename_i d' hd
      split at h
      · rename_i hg
        injection h with h
        subst h
        unfold good at hg
        simp only [Bool.and_eq_true, decide_eq_true_eq] at hg
        refine Nat.xor_lt_two_pow (fw_lt l n d' hd) (Nat.pow_lt_pow_right (by omega) ?_)
        have := hg.1.1
        omega
      · cases h
theorem isEvs_fw {l : List Ev} (h : isEvs l = true) : l.length ≤ 64 ∧ fw l l.length = some (xo 0 l) := by
  unfold isEvs at h
  rw [Bool.and_eq_true, decide_eq_true_eq] at h
  refine ⟨h.1, ?_⟩
  cases e : fw l l.length with
  | none => rw [e] at h; simp at h
  | some d => rw [fw_xo l _ d (Nat.le_refl _) e, List.take_length]

/-! ### the changes from one mask to another -/
def evB (last mask : Nat) (t : Int) : Nat → List Ev
  | 0 => []
  | k + 1 => if last.testBit k = mask.testBit k then evB last mask t k else evB last mask t k ++ [⟨t, (k : Nat), mask.testBit k⟩]
def prevM (m : Nat → Nat) : Nat → Nat
  | 0 => 0
  | n + 1 => m n
def evs (m : Nat → Nat) : Nat → List Ev
  | 0 => []
  | n + 1 => evs m n ++ evB (prevM m n) (m n) (n : Nat) 32
/-- The first k keys as in mask, the others as in last. -/
def mix (last mask : Nat) : Nat → Nat
  | 0 => last
  | k + 1 => if last.testBit k = mask.testBit k then mix last mask k else mix last mask k ^^^ 2 ^ k
theorem mix_bit (last mask : Nat) : ∀ k i, (mix last mask k).testBit i = if i < k then mask.testBit i else last.testBit i
  | 0, i => by simp [mix]
  | k + 1, i => by
    rw [mix]
    by_cases e : i = k
    · subst e
      split
      · rename_i h; rw [mix_bit last mask i i, if_neg (by omega), if_pos (by omega), h]
      · rename_i h
        rw [Nat.testBit_xor, mix_bit last mask i i, if_neg (by omega), if_pos (by omega), Nat.testBit_two_pow_self]
        revert h; cases last.testBit i <;> cases mask.testBit i <;> simp
    · have h2 : (2 ^ k).testBit i = false := by rw [Nat.testBit_two_pow]; simp; omega
      split
      · rw [mix_bit last mask k i]
        by_cases hk : i < k
        · rw [if_pos hk, if_pos (by omega)]
        · rw [if_neg hk, if_neg (by omega)]
      · rw [Nat.testBit_xor, h2, Bool.xor_false, mix_bit last mask k i]
        by_cases hk : i < k
        · rw [if_pos hk, if_pos (by omega)]
        · rw [if_neg hk, if_neg (by omega)]
theorem mix_all {last mask K : Nat} (h1 : last < 2 ^ K) (h2 : mask < 2 ^ K) : mix last mask K = mask := by
  apply Nat.eq_of_testBit_eq; intro i
  rw [mix_bit]
  by_cases h : i < K
  · rw [if_pos h]
  · have p : 2 ^ K ≤ 2 ^ i := Nat.pow_le_pow_right (by omega) (by omega)
    rw [if_neg h, Nat.testBit_lt_two_pow (by omega), Nat.testBit_lt_two_pow (by omega)]
theorem xo_evB (last mask : Nat) (t : Int) : ∀ k, xo last (evB last mask t k) = mix last mask k
  | 0 => rfl
  | k + 1 => by
    rw [evB, mix]
    split
    · exact xo_evB last mask t k
    · rw [xo_append, xo_evB last mask t k]; simp [xo]
theorem xo_evs (m : Nat → Nat) (h : ∀ i, m i < 2 ^ 32) : ∀ n, xo 0 (evs m n) = prevM m n
  | 0 => rfl
  | n + 1 => by
    rw [evs, xo_append, xo_evs m h n, xo_evB]
    exact mix_all (by cases n with
                      | zero => exact Nat.two_pow_pos _
                      | succ n => exact h n) (h n)
theorem evB_length_le (last mask : Nat) (t : Int) : ∀ k, (evB last mask t k).length ≤ k
  | 0 => Nat.le_refl _
  | k + 1 => by have := evB_length_le last mask t k; rw [evB]; split <;> simp <;> omega
theorem evB_mem (last mask : Nat) (t : Int) : ∀ k, ∀ e ∈ evB last mask t k, e.time = t ∧ 0 ≤ e.key ∧ e.key < (k : Nat)
  | 0, e, h => by simp [evB] at h
  | k + 1, e, h => by
    rw [evB] at h
    split at h
    · have := evB_mem last mask t k e h; omega
    · rw [List.mem_append, List.mem_singleton] at h
      rcases h with h | rfl
      · have := evB_mem last mask t k e h; omega
      · exact ⟨rfl, Int.natCast_nonneg _, by show (k : Int) < ((k + 1 : Nat) : Int); omega⟩
theorem evs_mem (m : Nat → Nat) : ∀ n, ∀ e ∈ evs m n, 0 ≤ e.time ∧ e.time < (n : Nat) ∧ 0 ≤ e.key ∧ e.key < 32
  | 0, e, h => by simp [evs] at h
  | n + 1, e, h => by
    rw [evs, List.mem_append] at h
    rcases h with h | h
    · have := evs_mem m n e h; omega
    · have := evB_mem _ _ _ _ e h; omega

/-! ### they are right -/
theorem fw_append (l r : List Ev) : ∀ n, n ≤ l.length → fw (l ++ r) n = fw l n
  | 0, _ => rfl
  | n + 1, h => by
    rw [fw, fw, fw_append l r n (by omega)]
    have h1 : (l ++ r).getD n ⟨0, 0, false⟩ = l.getD n ⟨0, 0, false⟩ := by
      rw [List.getD_eq_getElem?_getD, List.getD_eq_getElem?_getD, List.getElem?_append_left (by omega)]
    have h2 : ∀ d, good (l ++ r) n d = good l n d := by
      intro d
      unfold good
      rw [h1]
      by_cases e : n = 0
      · simp [e]
      · have h3 : (l ++ r).getD (n - 1) ⟨0, 0, false⟩ = l.getD (n - 1) ⟨0, 0, false⟩ := by
          rw [List.getD_eq_getElem?_getD, List.getD_eq_getElem?_getD, List.getElem?_append_left (by omega)]
        rw [h3]
    rw [h1]
    split
    · rfl
    · rw [h2]
/-- One more event at the end. -/
theorem fw_snoc {l : List Ev} {e : Ev} {d : Nat} (h : fw l l.length = some d) (h1 : 0 ≤ e.time ∧ e.time ≤ 1000000 ∧ 0 ≤ e.key ∧ e.key ≤ 31) (h2 : ∀ x ∈ l, x.time ≤ e.time) (h3 : e.down ≠ d.testBit e.key.toNat) :
    fw (l ++ [e]) (l ++ [e]).length = some (d ^^^ 2 ^ e.key.toNat) := by
  have hl : (l ++ [e]).length = l.length + 1 := by simp
  have he : (l ++ [e]).getD l.length ⟨0, 0, false⟩ = e := DB.getD_snoc_eq _ _ _
  rw [hl, fw, fw_append l [e] l.length (Nat.le_refl _), h]
  simp only []
  rw [he, if_pos]
  unfold good
  rw [he]
  simp only [Bool.and_eq_true, decide_eq_true_eq, Bool.or_eq_true, bne_iff_ne]
  refine ⟨⟨h1, ?_⟩, h3⟩
  by_cases e0 : l.length = 0
  · exact .inl e0
  · right
    rw [DB.getD_snoc_lt _ _ _ (by omega), List.getD_eq_getElem?_getD, List.getElem?_eq_getElem (by omega)]
    exact h2 _ (List.getElem_mem _)
theorem fw_evB {l : List Ev} {last : Nat} (hl : fw l l.length = some last) (mask : Nat) (t : Int) (ht : 0 ≤ t ∧ t ≤ 1000000) (hx : ∀ x ∈ l, x.time ≤ t) : ∀ k, k ≤ 32 → fw (l ++ evB last mask t k) (l ++ evB last mask t k).length = some (mix last mask k)
  | 0, _ => by simpa [evB, mix] using hl
  | k + 1, hk => by
    have ih := fw_evB hl mask t ht hx k (by omega)
    rw [evB, mix]
    by_cases e : last.testBit k = mask.testBit k
    · rw [if_pos e, if_pos e]; exact ih
    · rw [if_neg e, if_neg e, ← List.append_assoc]
      have h3 := fw_snoc (e := ⟨t, (k : Nat), mask.testBit k⟩) ih ⟨ht.1, ht.2, by simp only []; omega, by simp only []; omega⟩ (fun x hxx => by
        rw [List.mem_append] at hxx
        rcases hxx with hxx | hxx
        · exact hx x hxx
        · have := (evB_mem _ _ _ _ x hxx).1; simp only []; omega) (by
        simp only [Int.toNat_natCast]
        rw [mix_bit, if_neg (by omega)]
        intro h; exact e h.symm)
      simpa using h3
theorem fw_evs (m : Nat → Nat) (h : ∀ i, m i < 2 ^ 32) : ∀ n, n ≤ 1000000 → fw (evs m n) (evs m n).length = some (prevM m n)
  | 0, _ => rfl
  | n + 1, hn => by
    have ih := fw_evs m h n (by omega)
    have := fw_evB ih (m n) (n : Nat) ⟨by omega, by omega⟩ (fun x hx => by have := evs_mem m n x hx; omega) 32 (Nat.le_refl _)
    rw [mix_all (by cases n with
                      | zero => exact Nat.two_pow_pos _
                      | succ n => exact h n) (h n)] at this
    exact this
theorem isEvs_evs (m : Nat → Nat) (h : ∀ i, m i < 2 ^ 32) (n : Nat) (hn : n ≤ 1000000) (hl : (evs m n).length ≤ 64) : isEvs (evs m n) = true := by
  unfold isEvs; rw [fw_evs m h n hn]; simp [hl]

/-! ### masks made of events again -/
/-- Where the reading stands after the milliseconds up to i: all events up to that time are behind it. -/
def upto (l : List Ev) (i : Int) (at_ : Nat) : Nat := at_ + ((l.drop at_).takeWhile (fun e => decide (e.time ≤ i))).length
def atTo (l : List Ev) : Nat → Nat
  | 0 => 0
  | i + 1 => upto l (i : Nat) (atTo l i)
def masksTo (l : List Ev) : Nat → List Nat
  | 0 => []
  | i + 1 => masksTo l i ++ [xo 0 (l.take (atTo l (i + 1)))]
theorem upto_le (l : List Ev) (i : Int) {a : Nat} (h : a ≤ l.length) : upto l i a ≤ l.length := by
  unfold upto
  have := (List.takeWhile_prefix (fun e : Ev => decide (e.time ≤ i)) (l := l.drop a)).length_le
  rw [List.length_drop] at this; omega
theorem atTo_le (l : List Ev) : ∀ i, atTo l i ≤ l.length
  | 0 => Nat.zero_le _
  | i + 1 => upto_le l _ (atTo_le l i)
theorem upto_stop (l : List Ev) (i : Int) (a : Nat) (h : a = l.length ∨ (a < l.length ∧ i < (l.getD a ⟨0, 0, false⟩).time)) : upto l i a = a := by
  unfold upto
  rcases h with rfl | ⟨h1, h2⟩
  · simp
  · rw [List.drop_eq_getElem_cons h1, List.takeWhile_cons]
    rw [List.getD_eq_getElem?_getD, List.getElem?_eq_getElem h1] at h2
    have : ¬ (l[a]).time ≤ i := by simpa using h2
    simp [this]
theorem upto_more (l : List Ev) (i : Int) (a : Nat) (h1 : a < l.length) (h2 : (l.getD a ⟨0, 0, false⟩).time ≤ i) : upto l i a = upto l i (a + 1) := by
  unfold upto
  rw [List.drop_eq_getElem_cons h1, List.takeWhile_cons]
  rw [List.getD_eq_getElem?_getD, List.getElem?_eq_getElem h1] at h2
  have : (l[a]).time ≤ i := by simpa using h2
  simp [this]; omega
theorem evs_prefix (m : Nat → Nat) (k : Nat) : ∀ n, k ≤ n → ∃ r, evs m n = evs m k ++ r ∧ ∀ e ∈ r, (k : Int) ≤ e.time
  | 0, h => by obtain rfl : k = 0 := by omega
               exact ⟨[], rfl, fun e h => by simp at h⟩
  | n + 1, h => by
    by_cases e : k = n + 1
    · subst e; exact ⟨[], by simp, fun e h => by simp at h⟩
    · obtain ⟨r, h1, h2⟩ := evs_prefix m k n (by omega)
      refine ⟨r ++ evB (prevM m n) (m n) (n : Nat) 32, by rw [evs, h1, List.append_assoc], fun x hx => ?_⟩
      rw [List.mem_append] at hx
      rcases hx with hx | hx
      · exact h2 x hx
      · have := (evB_mem _ _ _ _ x hx).1; omega
theorem atTo_evs (m : Nat → Nat) (n : Nat) : ∀ i, i ≤ n → atTo (evs m n) i = (evs m i).length
  | 0, _ => rfl
  | i + 1, h => by
    rw [atTo, atTo_evs m n i (by omega)]
    obtain ⟨r, h1, h2⟩ := evs_prefix m (i + 1) n h
    unfold upto
    rw [h1, evs, List.append_assoc, List.drop_left]
    have h3 : List.takeWhile (fun e => decide (e.time ≤ ((i : Nat) : Int))) (evB (prevM m i) (m i) (i : Nat) 32 ++ r) = evB (prevM m i) (m i) (i : Nat) 32 := by
      rw [List.takeWhile_append_of_pos (fun e he => by have := (evB_mem _ _ _ _ e he).1; simp; omega)]
      cases r with
      | nil => simp
      | cons x r =>
        have := h2 x (by simp)
        rw [List.takeWhile_cons, if_neg (by simp; omega)]; simp
    rw [h3, List.length_append]
theorem masksTo_evs (m : Nat → Nat) (h : ∀ i, m i < 2 ^ 32) (n : Nat) : ∀ i, i ≤ n → masksTo (evs m n) i = (List.range i).map m
  | 0, _ => rfl
  | i + 1, hi => by
    rw [masksTo, masksTo_evs m h n i (by omega), atTo_evs m n (i + 1) hi, List.range_succ, List.map_append]
    obtain ⟨r, h1, _⟩ := evs_prefix m (i + 1) n hi
    rw [h1, List.take_left, xo_evs m h (i + 1)]; rfl

/-! ### how many they are -/
/-- So many of the first k keys change at step n. -/
def diff (m : Nat → Nat) (n : Nat) : Nat → Nat
  | 0 => 0
  | k + 1 => if (prevM m n).testBit k = (m n).testBit k then diff m n k else diff m n k + 1
theorem evB_length (m : Nat → Nat) (n : Nat) (t : Int) : ∀ k, (evB (prevM m n) (m n) t k).length = diff m n k
  | 0 => rfl
  | k + 1 => by rw [evB, diff]; split <;> simp [evB_length m n t k]
theorem diff_high (m : Nat → Nat) (K : Nat) (h : ∀ i, m i < 2 ^ K) (n : Nat) : ∀ k, K ≤ k → diff m n k = diff m n K
  | 0, hk => by obtain rfl : K = 0 := by omega
                rfl
  | k + 1, hk => by
    by_cases e : K = k + 1
    · subst e; rfl
    · have p : 2 ^ K ≤ 2 ^ k := Nat.pow_le_pow_right (by omega) (by omega)
      have h1 : prevM m n < 2 ^ K := by
        cases n with
        | zero => exact Nat.two_pow_pos _
        | succ n => exact h n
      have h2 := h n
      rw [diff, Nat.testBit_lt_two_pow (by omega), Nat.testBit_lt_two_pow (by omega), if_pos rfl]
      exact diff_high m K h n k (by omega)
def total (m : Nat → Nat) (n : Nat) : Nat → Nat
  | 0 => 0
  | k + 1 => total m n k + cnt (fun i => (m i).testBit k) n
theorem total_succ (m : Nat → Nat) (n : Nat) : ∀ k, total m (n + 1) k = total m n k + diff m n k
  | 0 => rfl
  | k + 1 => by
    have h1 : prev (fun i => (m i).testBit k) n = (prevM m n).testBit k := by
      cases n with
      | zero => simp [prev, prevM]
      | succ n => rfl
    rw [total, total, diff, total_succ m n k, cnt, h1]
    by_cases e : (prevM m n).testBit k = (m n).testBit k
    · rw [if_pos e, if_pos e.symm]; omega
    · rw [if_neg e, if_neg (fun h => e h.symm)]; omega
theorem total_zero (m : Nat → Nat) : ∀ k, total m 0 k = 0
  | 0 => rfl
  | k + 1 => by rw [total, total_zero m k]; rfl
theorem evs_length (m : Nat → Nat) (h : ∀ i, m i < 2 ^ 4) : ∀ n, (evs m n).length = total m n 4
  | 0 => (total_zero m 4).symm
  | n + 1 => by
    rw [evs, List.length_append, evs_length m h n, evB_length, total_succ, diff_high m 4 h n 32 (by omega)]
end Go.Proofs.YtpfocjdhjkifmaaDoor.EV
