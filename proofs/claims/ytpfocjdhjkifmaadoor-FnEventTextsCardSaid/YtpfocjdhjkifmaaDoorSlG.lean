/- Slices whose elements are one cell each, of whatever kind: what is owned, what is read. Conditions: none of its own. -/
import Derived.Test.YtpfocjdhjkifmaaDoorNum
namespace Go.Proofs.YtpfocjdhjkifmaaDoor
open Go.RowKit
set_option linter.unusedVariables false

section
variable {α : Type} {f : α → Value} {t : TypeId} {w w' : World} {base base' : Nat} {A B : Option Addr} {n cap m cap' : Nat} {xs ys : List α}
/-- A slice that the call itself has made, holding xs. -/
structure OwnG (f : α → Value) (t : TypeId) (w : World) (base : Nat) (A : Option Addr) (n cap : Nat) (xs : List α) : Prop where
  len : xs.length = n
  row : w.ownsRow base t 1 (.slice A n cap) n (xs.map f)
/-- A slice that reads as xs. -/
structure RdG (f : α → Value) (w : World) (A : Option Addr) (n : Nat) (xs : List α) : Prop where
  len : xs.length = n
  rd : Reads w w.heap.size 1 A n (xs.map f)
theorem map_getD (f : α → Value) (d : α) {xs : List α} {k : Nat} (h : k < xs.length) : (xs.map f)[k]? = some (f (xs.getD k d)) := by
  rw [List.getElem?_map, List.getD_eq_getElem?_getD, List.getElem?_eq_getElem h]; rfl
theorem RdG.below (h : RdG f w A n xs) (hb : Below w.heap.size w w') : RdG f w' A n xs := ⟨h.1, (h.2.below hb).more hb.size⟩
theorem RdG.drewN (h : RdG f w A n xs) (k : Nat) : RdG f (w.drewN k) A n xs := ⟨h.1, h.2⟩
theorem RdG.drew (h : RdG f w A n xs) : RdG f w.drew A n xs := ⟨h.1, h.2⟩
theorem RdG.alloc (h : RdG f w A n xs) (o : Obj) : RdG f (w.alloc o) A n xs := h.below ((Below.refl _ _).alloc (Nat.le_refl _) o)
theorem OwnG.rd (h : OwnG f t w base A n cap xs) : RdG f w A n xs := ⟨h.1, Reads.of_own h.2⟩
theorem OwnG.below (h : OwnG f t w base A n cap xs) (hb : Below w.heap.size w w') : OwnG f t w' base A n cap xs := ⟨h.1, ownsRow_below h.2 hb⟩
theorem OwnG.alloc (h : OwnG f t w base A n cap xs) (o : Obj) : OwnG f t (w.alloc o) base A n cap xs := ⟨h.1, h.2.alloc o⟩
theorem OwnG.drewN (h : OwnG f t w base A n cap xs) (k : Nat) : OwnG f t (w.drewN k) base A n cap xs := ⟨h.1, h.2⟩
theorem OwnG.far (h : OwnG f t w base A n cap xs) {p : Addr} (hp : p.block < base) (u : Value) : OwnG f t (w.setCell p u) base A n cap xs := ⟨h.1, ownsRow_far h.2 hp u⟩
theorem OwnG.lower (h : OwnG f t w base A n cap xs) (hp : base' ≤ base) : OwnG f t w base' A n cap xs := ⟨h.1, ownsRow_base h.2 hp⟩
theorem OwnG.keptL (h : OwnG f t w base A n cap xs) (hg : w.grownBy w' (Value.slice B m cap').ownBlock)
    (hne : (Value.slice A n cap).ownBlock = none ∨ (Value.slice A n cap).ownBlock ≠ (Value.slice B m cap').ownBlock) : OwnG f t w' base A n cap xs := ⟨h.1, h.2.kept hg hne⟩
theorem RdG.at_ (d : α) (h : RdG f w A n xs) {k : Nat} (hk : k < n) : ∃ ad, A = some ad ∧ w.cell? (ad.add k) = some (f (xs.getD k d)) := by
  obtain ⟨ad, u, e, _, hx, hc⟩ := h.2.at_ hk
  have := h.1
  rw [map_getD f d (by omega)] at hx
  injection hx with hx
  exact ⟨ad, e, by rw [hc, hx]⟩
theorem OwnG.form (h : OwnG f t w base A n cap xs) (hn : 0 < n) : ∃ g, A = some ⟨g, 0, none⟩ := by
  obtain ⟨g, cap', hv, _⟩ := h.2.form hn
  injection hv with hA
  exact ⟨g, hA⟩
theorem RdG.nil_ (f : α → Value) (w : World) (A : Option Addr) : RdG f w A 0 [] := ⟨rfl, by simp, fun h => absurd h (by omega)⟩
theorem OwnG.nil_ (f : α → Value) (t : TypeId) (w : World) (base : Nat) : OwnG f t w base none 0 0 [] := ⟨rfl, World.ownsRow_nil _ _ _ _⟩
/-- An empty literal. -/
theorem own_litG (W : World) (t : TypeId) (size : Nat) : (W.alloc (.cells #[] t)).ownsRow W.heap.size t size (.slice (some ⟨W.heap.size, 0, none⟩) 0 0) 0 [] :=
  ⟨by simp, .inr ⟨W.heap.size, 0, #[], rfl, Nat.le_refl _, heap_alloc_new W _, Nat.le_refl _, Nat.zero_le _, by simp, by simp⟩⟩
/-- What a copy hands back. -/
def MadeG (f : α → Value) (t : TypeId) (w : World) (xs : List α) (e : Ending) (w' : World) : Prop :=
  ∃ (A : Option Addr) (cap : Nat), e = .returned (.slice A xs.length cap) ∧ OwnG f t w' w.heap.size A xs.length cap xs ∧ Below w.heap.size w w'

def fillG (d : α) (xs : List α) (n k : Nat) : List α := xs.take k ++ List.replicate (n - k) d
theorem fillG_length (d : α) (xs : List α) {n k : Nat} (h : xs.length = n) (hk : k ≤ n) : (fillG d xs n k).length = n := by unfold fillG; simp; omega
theorem fillG_get (d : α) (xs : List α) {n k : Nat} (h : xs.length = n) (hk : k ≤ n) (i : Nat) : (fillG d xs n k)[i]? = if i < k then xs[i]? else if i < n then some d else none := by
  have hm : (xs.take k).length = k := by rw [List.length_take]; omega
  unfold fillG
  rw [List.getElem?_append, hm]
  by_cases h1 : i < k
  · rw [if_pos h1, if_pos h1, List.getElem?_take, if_pos h1]
  · rw [if_neg h1, if_neg h1, List.getElem?_replicate]
    by_cases h2 : i < n
    · rw [if_pos h2, if_pos (by omega)]
    · rw [if_neg h2, if_neg (by omega)]
theorem fillG_set (f : α → Value) (d : α) (xs : List α) {n k : Nat} (h : xs.length = n) (hk : k < n) : ((fillG d xs n k).map f).set k (f (xs.getD k d)) = (fillG d xs n (k + 1)).map f := by
  rw [← List.map_set]
  congr 1
  apply List.ext_getElem?
  intro i
  rw [List.getElem?_set, fillG_length d xs h (by omega), fillG_get d xs h (by omega), fillG_get d xs h (by omega)]
  by_cases h1 : k = i
  · subst h1
    rw [if_pos rfl, if_pos hk, if_pos (by omega), List.getD_eq_getElem?_getD, List.getElem?_eq_getElem (by omega)]; rfl
  · rw [if_neg h1]
    by_cases h2 : i < k
    · rw [if_pos h2, if_pos (by omega)]
    · rw [if_neg h2, if_neg (show ¬ i < k + 1 by omega)]
theorem fillG_zero (f : α → Value) (d : α) (xs : List α) (n : Nat) : (fillG d xs n 0).map f = (madeCells #[f d] n).toList := by
  unfold fillG
  rw [toList_madeCells_one]; simp
theorem fillG_all (d : α) (xs : List α) : fillG d xs xs.length xs.length = xs := by unfold fillG; simp

/-- The marks: g i at place i. -/
def marksG (g : Nat → α) (n : Nat) : List α := (List.range n).map g
theorem marksG_length (g : Nat → α) (n : Nat) : (marksG g n).length = n := by unfold marksG; simp
theorem marksG_get (g : Nat → α) (n : Nat) (i : Nat) : (marksG g n)[i]? = if i < n then some (g i) else none := by
  unfold marksG
  by_cases h : i < n
  · rw [List.getElem?_map, List.getElem?_range h, if_pos h]; rfl
  · rw [if_neg h, List.getElem?_eq_none (by simp; omega)]
theorem marksG_getD {g : Nat → α} {n i : Nat} (d : α) (h : i < n) : (marksG g n).getD i d = g i := by
  rw [List.getD_eq_getElem?_getD, marksG_get, if_pos h]; rfl
/-- The first j elements are marked. -/
def mkToG (g : Nat → α) (xs : List α) (j : Nat) : List α := marksG g j ++ xs.drop j
theorem mkToG_length (g : Nat → α) (xs : List α) {j : Nat} (h : j ≤ xs.length) : (mkToG g xs j).length = xs.length := by unfold mkToG; simp [marksG_length]; omega
theorem mkToG_get (g : Nat → α) (xs : List α) {j : Nat} (h : j ≤ xs.length) (i : Nat) : (mkToG g xs j)[i]? = if i < j then some (g i) else xs[i]? := by
  unfold mkToG
  rw [List.getElem?_append, marksG_length]
  by_cases h1 : i < j
  · rw [if_pos h1, if_pos h1, marksG_get, if_pos h1]
  · rw [if_neg h1, if_neg h1, List.getElem?_drop]; congr 1; omega
theorem mkToG_set (f : α → Value) (g : Nat → α) (xs : List α) {j : Nat} (h : j < xs.length) : ((mkToG g xs j).map f).set j (f (g j)) = (mkToG g xs (j + 1)).map f := by
  rw [← List.map_set]
  congr 1
  apply List.ext_getElem?
  intro i
  rw [List.getElem?_set, mkToG_length g xs (by omega), mkToG_get g xs (by omega), mkToG_get g xs (by omega)]
  by_cases h1 : j = i
  · subst h1; rw [if_pos rfl, if_pos h, if_pos (by omega)]
  · rw [if_neg h1]
    by_cases h2 : i < j
    · rw [if_pos h2, if_pos (by omega)]
    · rw [if_neg h2, if_neg (show ¬ i < j + 1 by omega)]
theorem mkToG_all (g : Nat → α) (xs : List α) : mkToG g xs xs.length = marksG g xs.length := by unfold mkToG; simp
/-- What marking does. -/
def MarkedG (f : α → Value) (t : TypeId) (g : Nat → α) (w : World) (base : Nat) (A : Option Addr) (n cap : Nat) (k : Int) (e : Ending) (w' : World) : Prop :=
  e = .returned (.int .i64 (k + n)) ∧ OwnG f t w' base A n cap (marksG g n) ∧ w.grownBy w' (Value.slice A n cap).ownBlock
theorem grown_trans {w wr w' : World} {r : Option Nat} (h1 : w.grownBy wr r) (h2 : wr.grownBy w' r) : w.grownBy w' r :=
  ⟨h2.os.trans h1.os, h2.tape.trans h1.tape, h2.output.trans h1.output, Nat.le_trans h1.size h2.size, fun i hi hne => (h2.block i (Nat.lt_of_lt_of_le hi h1.size) hne).trans (h1.block i hi hne)⟩
end
end Go.Proofs.YtpfocjdhjkifmaaDoor
