/- The plain mathematics of texts: divided at a byte, joined, letters of modifiers, hexadecimal digits. Conditions: none; no program in sight. -/
import Derived.Lib.Join
namespace Go.Proofs.YtpfocjdhjkifmaaDoor.TX

theorem snocInd {α : Type} {p : List α → Prop} (h0 : p []) (h1 : ∀ l x, p l → p (l ++ [x])) (l : List α) : p l := by
  have h : ∀ r : List α, p r.reverse := by
    intro r
    induction r with
    | nil => exact h0
    | cons a r ih => rw [List.reverse_cons]; exact h1 _ _ ih
  have := h l.reverse
  rwa [List.reverse_reverse] at this
/-- One more element. -/
theorem join_snoc (xs : List (List UInt8)) (x sep : List UInt8) : Lib.join (xs ++ [x]) sep = if xs = [] then x else Lib.join xs sep ++ (sep ++ x) := by
  cases xs with
  | nil => rw [List.nil_append, Lib.join_one, if_pos rfl]
  | cons a r => rw [List.cons_append, Lib.join_cons, Lib.join_cons, if_neg (by simp)]; simp [Lib.joinTail]
/-- One more byte: the parts behind which a sign stands, and the part that has begun. -/
def stp (b : UInt8) (p : List (List UInt8) × List UInt8) (x : UInt8) : List (List UInt8) × List UInt8 := if x = b then (p.1 ++ [p.2], []) else (p.1, p.2 ++ [x])
def spS (b : UInt8) (l : List UInt8) : List (List UInt8) × List UInt8 := l.foldl (stp b) ([], [])
/-- A text divided at a byte. -/
def parts (b : UInt8) (l : List UInt8) : List (List UInt8) := (spS b l).1 ++ [(spS b l).2]
theorem spS_snoc (b : UInt8) (l : List UInt8) (x : UInt8) : spS b (l ++ [x]) = stp b (spS b l) x := by unfold spS; rw [List.foldl_append]; rfl
theorem spS_len (b : UInt8) (l : List UInt8) : (spS b l).1.length ≤ l.length := by
  refine snocInd (p := fun l => (spS b l).1.length ≤ l.length) (Nat.le_refl _) (fun l x ih => ?_) l
  rw [spS_snoc]; unfold stp; split <;> simp <;> omega
theorem parts_len (b : UInt8) (l : List UInt8) : (parts b l).length ≤ l.length + 1 := by unfold parts; rw [List.length_append]; have := spS_len b l; simp; omega
theorem parts_ne (b : UInt8) (l : List UInt8) : parts b l ≠ [] := by unfold parts; simp
/-- Joined again, the parts are the text. -/
theorem join_parts (b : UInt8) (l : List UInt8) : Lib.join (parts b l) [b] = l := by
  refine snocInd (p := fun l => Lib.join (parts b l) [b] = l) rfl (fun l x ih => ?_) l
  unfold parts at *
  rw [spS_snoc]
  unfold stp
  by_cases e : x = b
  · rw [if_pos e, join_snoc, if_neg (by simp), ih, e]; simp
  · rw [if_neg e]
    rw [join_snoc] at ih ⊢
    by_cases e0 : (spS b l).1 = []
    · rw [if_pos e0] at ih ⊢; rw [ih]
    · rw [if_neg e0] at ih ⊢
      conv => rhs; rw [← ih]
      simp
/-- No part has the byte between them. -/
theorem parts_free (b : UInt8) (l : List UInt8) : ∀ p ∈ parts b l, b ∉ p := by
  have h : (∀ p ∈ (spS b l).1, b ∉ p) ∧ b ∉ (spS b l).2 := by
    refine snocInd (p := fun l => (∀ p ∈ (spS b l).1, b ∉ p) ∧ b ∉ (spS b l).2) (by simp [spS]) (fun l x ih => ?_) l
    rw [spS_snoc]
    unfold stp
    by_cases e : x = b
    · rw [if_pos e]
      refine ⟨fun p hp => ?_, by simp⟩
      simp only [List.mem_append, List.mem_singleton] at hp
      rcases hp with hp | rfl
      · exact ih.1 p hp
      · exact ih.2
    · rw [if_neg e]
      refine ⟨ih.1, fun hp => ?_⟩
      simp only [List.mem_append, List.mem_singleton] at hp
      rcases hp with hp | hp
      · exact ih.2 hp
      · exact e hp.symm
  intro p hp
  unfold parts at hp
  simp only [List.mem_append, List.mem_singleton] at hp
  rcases hp with hp | rfl
  · exact h.1 p hp
  · exact h.2
/-- A text without the byte is one part. -/
theorem parts_one (b : UInt8) (l : List UInt8) (h : b ∉ l) : parts b l = [l] := by
  have : spS b l = ([], l) := by
    revert h
    refine snocInd (p := fun l => b ∉ l → spS b l = ([], l)) (fun _ => rfl) (fun l x ih h => ?_) l
    rw [spS_snoc, ih (fun hh => h (by simp [hh]))]
    unfold stp
    rw [if_neg (fun e => h (by simp [e]))]
  unfold parts
  rw [this]; rfl

/-! ### modifiers -/
def letter (k : Nat) : UInt8 := [67, 83, 65, 71].getD k 0
def fmL (m : Int) : Nat → List UInt8
  | 0 => []
  | k + 1 => if m / 2 ^ k % 2 = 1 then fmL m k ++ [letter k] else fmL m k
/-- The text of modifiers. -/
def fmT (m : Int) : List UInt8 := if 1 ≤ m ∧ m ≤ 15 then fmL m 4 else []
theorem fmL_len (m : Int) : ∀ k, (fmL m k).length ≤ k
  | 0 => Nat.le_refl _
  | k + 1 => by have := fmL_len m k; rw [fmL]; split <;> simp <;> omega
theorem fmT_len (m : Int) : (fmT m).length ≤ 4 := by unfold fmT; split; exact fmL_len m 4; simp
/-- The modifiers of a text: the first whose text it is, behind the first k. -/
def pmK (l : List UInt8) : Nat → Nat → Nat
  | 0, _ => 0
  | f + 1, k => if fmT k = l then k else pmK l f (k + 1)
def pmT (l : List UInt8) : Nat := pmK l 15 1
theorem pmK_le (l : List UInt8) : ∀ f k, pmK l f k < f + k + 1
  | 0, k => by rw [pmK]; omega
  | f + 1, k => by
    rw [pmK]
    split
    · omega
    · have := pmK_le l f (k + 1); omega

/-! ### hexadecimal digits -/
def hexD (n : Nat) : UInt8 := if n < 10 then UInt8.ofNat (48 + n) else UInt8.ofNat (87 + n)
def hexL (l : List Int) : List UInt8 := l.flatMap fun x => [hexD (x.toNat / 16), hexD (x.toNat % 16)]
theorem hexL_snoc (l : List Int) (x : Int) : hexL (l ++ [x]) = hexL l ++ [hexD (x.toNat / 16), hexD (x.toNat % 16)] := by unfold hexL; simp
theorem hexL_len (l : List Int) : (hexL l).length = 2 * l.length := by
  induction l with
  | nil => rfl
  | cons a l ih => unfold hexL at *; simp [ih]; omega
end Go.Proofs.YtpfocjdhjkifmaaDoor.TX
