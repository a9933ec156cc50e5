/- Slices of integers: copied, compared, marked, held against marks: each helper of the laws by its contract. Conditions: at most 2^20 elements. -/
import Derived.Test.YthjgapjagfjamaaNum
namespace Go.Proofs.Ythjgapjagfjamaa
open Go.RowKit
set_option linter.unusedVariables false

theorem int_info : (Try.prog.info? 3).map (fun i => (i.zero, i.size, i.bytes)) = some (some (.int .i64 0), 1, 8) := by kernel_rfl
def ints (xs : List Int) : List Value := xs.map (Value.int .i64)
theorem ints_get {xs : List Int} {k : Nat} (h : k < xs.length) : (ints xs)[k]? = some (.int .i64 (xs.getD k 0)) := by
  unfold ints; rw [List.getElem?_map, List.getD_eq_getElem?_getD, List.getElem?_eq_getElem h]; rfl
theorem ints_length (xs : List Int) : (ints xs).length = xs.length := by unfold ints; simp
/-- A slice that the call itself has made, holding the integers xs. -/
def Own (w : World) (base : Nat) (A : Option Addr) (n cap : Nat) (xs : List Int) : Prop :=
  xs.length = n ∧ w.ownsRow base 3 1 (.slice A n cap) n (ints xs)
/-- A slice that reads as the integers xs. -/
def RdI (w : World) (A : Option Addr) (n : Nat) (xs : List Int) : Prop := xs.length = n ∧ Reads w w.heap.size 1 A n (ints xs)
theorem RdI.below {w w' : World} {A : Option Addr} {n : Nat} {xs : List Int} (h : RdI w A n xs) (hb : Below w.heap.size w w') : RdI w' A n xs := ⟨h.1, (h.2.below hb).more hb.size⟩
theorem RdI.drewN {w : World} {A : Option Addr} {n : Nat} {xs : List Int} (h : RdI w A n xs) (k : Nat) : RdI (w.drewN k) A n xs := h
theorem RdI.drew {w : World} {A : Option Addr} {n : Nat} {xs : List Int} (h : RdI w A n xs) : RdI w.drew A n xs := h
theorem RdI.alloc {w : World} {A : Option Addr} {n : Nat} {xs : List Int} (h : RdI w A n xs) (o : Obj) : RdI (w.alloc o) A n xs := h.below ((Below.refl _ _).alloc (Nat.le_refl _) o)
theorem Own.rd {w : World} {base : Nat} {A : Option Addr} {n cap : Nat} {xs : List Int} (h : Own w base A n cap xs) : RdI w A n xs := ⟨h.1, Reads.of_own h.2⟩
theorem Own.below {w w' : World} {base : Nat} {A : Option Addr} {n cap : Nat} {xs : List Int} (h : Own w base A n cap xs) (hb : Below w.heap.size w w') : Own w' base A n cap xs := ⟨h.1, ownsRow_below h.2 hb⟩
theorem RdI.at_ {w : World} {A : Option Addr} {n : Nat} {xs : List Int} (h : RdI w A n xs) {k : Nat} (hk : k < n) : ∃ ad, A = some ad ∧ w.cell? (ad.add k) = some (.int .i64 (xs.getD k 0)) := by
  obtain ⟨ad, u, e, _, hx, hc⟩ := h.2.at_ hk
  have := h.1
  rw [ints_get (by omega)] at hx
  injection hx with hx
  exact ⟨ad, e, by rw [hc, hx]⟩
theorem Own.alloc {w : World} {base : Nat} {A : Option Addr} {n cap : Nat} {xs : List Int} (h : Own w base A n cap xs) (o : Obj) : Own (w.alloc o) base A n cap xs := ⟨h.1, h.2.alloc o⟩
theorem Own.drewN {w : World} {base : Nat} {A : Option Addr} {n cap : Nat} {xs : List Int} (h : Own w base A n cap xs) (k : Nat) : Own (w.drewN k) base A n cap xs := h
theorem Own.far {w : World} {base : Nat} {A : Option Addr} {n cap : Nat} {xs : List Int} (h : Own w base A n cap xs) {p : Addr} (hp : p.block < base) (u : Value) : Own (w.setCell p u) base A n cap xs := ⟨h.1, ownsRow_far h.2 hp u⟩
theorem Own.base {w : World} {base base' : Nat} {A : Option Addr} {n cap : Nat} {xs : List Int} (h : Own w base A n cap xs) (hp : base' ≤ base) : Own w base' A n cap xs := ⟨h.1, ownsRow_base h.2 hp⟩
theorem Own.kept {w w' : World} {base base' m cap' : Nat} {A B : Option Addr} {n cap : Nat} {xs ys : List Int} {w2 : World} (h : Own w base A n cap xs) (hg : w.grownBy w' (Value.slice B m cap').ownBlock) (h0 : Own w2 base A n cap xs) (h' : Own w base' B m cap' ys) (hs : w2.heap.size ≤ base') : Own w' base A n cap xs :=
  ⟨h.1, h.2.kept hg (ownsRow_apart h0.2 h'.2 hs)⟩
/-- The same, closed. -/
structure RdS (w : World) (A : Option Addr) (n : Nat) (xs : List Int) : Prop where
  out : RdI w A n xs
theorem RdS.drew {w : World} {A : Option Addr} {n : Nat} {xs : List Int} (h : RdS w A n xs) : RdS w.drew A n xs := ⟨h.out.drew⟩
theorem RdS.drewN {w : World} {A : Option Addr} {n : Nat} {xs : List Int} (h : RdS w A n xs) (k : Nat) : RdS (w.drewN k) A n xs := ⟨h.out.drewN k⟩
theorem RdS.alloc {w : World} {A : Option Addr} {n : Nat} {xs : List Int} (h : RdS w A n xs) (o : Obj) : RdS (w.alloc o) A n xs := ⟨h.out.alloc o⟩
theorem RdS.below {w w' : World} {A : Option Addr} {n : Nat} {xs : List Int} (h : RdS w A n xs) (hb : Below w.heap.size w w') : RdS w' A n xs := ⟨h.out.below hb⟩
theorem Own.rs {w : World} {base : Nat} {A : Option Addr} {n cap : Nat} {xs : List Int} (h : Own w base A n cap xs) : RdS w A n xs := ⟨h.rd⟩
/-- What a copy hands back. -/
def MadeI (w : World) (xs : List Int) (e : Ending) (w' : World) : Prop :=
  ∃ (A : Option Addr) (cap : Nat), e = .returned (.slice A xs.length cap) ∧ Own w' w.heap.size A xs.length cap xs ∧ Below w.heap.size w w'

def fill (xs : List Int) (n k : Nat) : List Int := xs.take k ++ List.replicate (n - k) 0
theorem fill_length (xs : List Int) {n k : Nat} (h : xs.length = n) (hk : k ≤ n) : (fill xs n k).length = n := by unfold fill; simp; omega
theorem fill_get (xs : List Int) {n k : Nat} (h : xs.length = n) (hk : k ≤ n) (i : Nat) : (fill xs n k)[i]? = if i < k then xs[i]? else if i < n then some 0 else none := by
  have hm : (xs.take k).length = k := by rw [List.length_take]; omega
  unfold fill
  rw [List.getElem?_append, hm]
  by_cases h1 : i < k
  · rw [if_pos h1, if_pos h1, List.getElem?_take, if_pos h1]
  · rw [if_neg h1, if_neg h1, List.getElem?_replicate]
    by_cases h2 : i < n
    · rw [if_pos h2, if_pos (by omega)]
    · rw [if_neg h2, if_neg (by omega)]
theorem fill_set (xs : List Int) {n k : Nat} (h : xs.length = n) (hk : k < n) : (ints (fill xs n k)).set k (.int .i64 (xs.getD k 0)) = ints (fill xs n (k + 1)) := by
  unfold ints
  rw [← List.map_set]
  congr 1
  apply List.ext_getElem?
  intro i
  rw [List.getElem?_set, fill_length xs h (by omega), fill_get xs h (by omega), fill_get xs h (by omega)]
  by_cases h1 : k = i
  · subst h1
    rw [if_pos rfl, if_pos hk, if_pos (by omega), List.getD_eq_getElem?_getD, List.getElem?_eq_getElem (by omega)]; rfl
  · rw [if_neg h1]
    by_cases h2 : i < k
    · rw [if_pos h2, if_pos (by omega)]
    · rw [if_neg h2, if_neg (show ¬ i < k + 1 by omega)]
theorem fill_zero (xs : List Int) (n : Nat) : ints (fill xs n 0) = (madeCells #[Value.int .i64 0] n).toList := by
  unfold ints fill
  rw [toList_madeCells_one]; simp
theorem fill_all (xs : List Int) : fill xs xs.length xs.length = xs := by unfold fill; simp

set_option maxHeartbeats 1000000 in
theorem toIntS_any {w : World} {A : Option Addr} {n cap : Nat} {xs : List Int} (h : RdI w A n xs) (hn : n ≤ 1048576) : Calls Try.prog 22 #[.slice A n cap] w (MadeI w xs) := by
  have hl := h.1
  obtain ⟨i0, hi, hz0, hz1, hz2⟩ := info_parts int_info
  have HR := hid h; clear h
  have HI := hid (And.intro hi (And.intro hz0 (And.intro hz1 hz2))); clear hi hz0 hz1 hz2
  go_enter Try.func22, Try.ntmps22
  go_wp2_with (at_make; refine wpList_make_full _ rfl _ _ 37 rfl w.heap.size 3 i0 (.int .i64 0) 1 Try.underlying37 HI.out.1 HI.out.2.1 HI.out.2.2.1 .i64 .i64 n n n rfl rfl rfl rfl ?c1 ?c2 (Nat.le_refl _) ?_)
  case c1 => rw [HI.out.2.2.2]; omega
  case c2 => unfold maxLen; omega
  intro w1 hown hg
  have hb1 : Below w.heap.size w w1 := (Below.refl _ _).grown hg (Nat.le_refl _) (fun k hk => by cases hk)
  rw [← fill_zero xs n] at hown
  clear hg
  go_wp2
  go_loopw [4] (fun i wr => ∃ k : Nat, k ≤ n ∧ i = .int .i64 k ∧ wr.ownsRow w.heap.size 3 1 (.slice (some ⟨w.heap.size, 0, none⟩) n n) n (ints (fill xs n k)) ∧ Below w.heap.size w wr) (fun i _ => n - (intOf i).toNat)
  case atStart => exact ⟨0, Nat.zero_le _, rfl, hown, hb1⟩
  case round =>
    clear hown hb1
    obtain ⟨k, hk, rfl, hown, hbel⟩ := hrel
    by_cases hlt : k < n
    · obtain ⟨ad, rfl, hc⟩ := (HR.out.below hbel).at_ hlt
      have hst := hown.stored k (.int .i64 (xs.getD k 0))
      rw [fill_set xs hl hlt] at hst
      have hcell : wr.cell? ⟨w.heap.size, k, none⟩ = some (.int .i64 ((fill xs n k).getD k 0)) := by
        rw [hown.cellAt k (by omega), ints_get (by rw [fill_length xs hl hk]; exact hlt)]
      have hfz := hown.frozenAt k
      have HS := hid hst; clear hst hown
      generalize (fill xs n k).getD k 0 = old at *
      generalize xs.getD k 0 = v at *
      go_wp2
      go_roundw
      case rel => exact ⟨k + 1, by omega, by go_num, HS.out.1, Below.setCell hbel (Nat.le_refl _) _⟩
      case measure => simp [intOf]; omega
    · obtain rfl : k = n := by omega
      go_wp2
      go_ret
      subst hl
      rw [fill_all] at hown
      exact ⟨_, _, rfl, ⟨rfl, hown⟩, hbel⟩
set_option maxHeartbeats 1000000 in
/-- Two slices that read as the same integers. -/
theorem eqIntS_same {w : World} {A B : Option Addr} {n c d : Nat} {xs : List Int} (h : RdI w A n xs) (h' : RdI w B n xs) (hn : n ≤ 1048576) : Calls Try.prog 24 #[.slice A n c, .slice B n d] w fun e w' => e = .returned (.bool true) ∧ Below w.heap.size w w' := by
  have HA := hid h; clear h
  have HB := hid h'; clear h'
  go_enter Try.func24, Try.ntmps24
  go_wp2
  go_loopw [5] (fun i wr => ∃ k q : Nat, k ≤ n ∧ i = .int .i64 k ∧ wr = w.drewN q) (fun i _ => n - (intOf i).toNat)
  case atStart => exact ⟨0, 0, Nat.zero_le _, rfl, rfl⟩
  case round =>
    obtain ⟨k, q, hk, rfl, rfl⟩ := hrel
    by_cases hlt : k < n
    · obtain ⟨ad, rfl, ha⟩ := HA.out.at_ hlt
      obtain ⟨bd, rfl, hb⟩ := HB.out.at_ hlt
      have hk0 : (0 : Int) ≤ (k : Int) := by omega
      have hkn : (k : Int) < (n : Int) := by omega
      generalize xs.getD k 0 = v at *
      go_wp2
      go_quiet (fail)
      go_wp2
      go_roundw
      case rel => exact ⟨k + 1, _, by omega, by go_num, rfl⟩
      case measure => simp [intOf]; omega
    · obtain rfl : k = n := by omega
      go_wp2
      go_ret
      exact ⟨rfl, below_drewN (Below.refl _ _) _⟩

def marks (k : Int) (n : Nat) : List Int := (List.range n).map (fun i : Nat => k + (i : Int))
theorem marks_length (k : Int) (n : Nat) : (marks k n).length = n := by unfold marks; simp
theorem marks_get (k : Int) (n : Nat) (i : Nat) : (marks k n)[i]? = if i < n then some (k + (i : Int)) else none := by
  unfold marks
  by_cases h : i < n
  · rw [List.getElem?_map, List.getElem?_range h, if_pos h]; rfl
  · rw [if_neg h, List.getElem?_eq_none (by simp; omega)]
theorem marks_getD {k : Int} {n i : Nat} (h : i < n) : (marks k n).getD i 0 = k + (i : Int) := by
  rw [List.getD_eq_getElem?_getD, marks_get, if_pos h]; rfl
/-- The first j elements are marked. -/
def mkTo (k : Int) (xs : List Int) (j : Nat) : List Int := marks k j ++ xs.drop j
theorem mkTo_length (k : Int) (xs : List Int) {j : Nat} (h : j ≤ xs.length) : (mkTo k xs j).length = xs.length := by unfold mkTo; simp [marks_length]; omega
theorem mkTo_get (k : Int) (xs : List Int) {j : Nat} (h : j ≤ xs.length) (i : Nat) : (mkTo k xs j)[i]? = if i < j then some (k + (i : Int)) else xs[i]? := by
  unfold mkTo
  rw [List.getElem?_append, marks_length]
  by_cases h1 : i < j
  · rw [if_pos h1, if_pos h1, marks_get, if_pos h1]
  · rw [if_neg h1, if_neg h1, List.getElem?_drop]; congr 1; omega
theorem mkTo_set (k : Int) (xs : List Int) {j : Nat} (h : j < xs.length) : (ints (mkTo k xs j)).set j (.int .i64 (k + (j : Int))) = ints (mkTo k xs (j + 1)) := by
  unfold ints
  rw [← List.map_set]
  congr 1
  apply List.ext_getElem?
  intro i
  rw [List.getElem?_set, mkTo_length k xs (by omega), mkTo_get k xs (by omega), mkTo_get k xs (by omega)]
  by_cases h1 : j = i
  · subst h1; rw [if_pos rfl, if_pos h, if_pos (by omega)]
  · rw [if_neg h1]
    by_cases h2 : i < j
    · rw [if_pos h2, if_pos (by omega)]
    · rw [if_neg h2, if_neg (show ¬ i < j + 1 by omega)]
theorem mkTo_all (k : Int) (xs : List Int) : mkTo k xs xs.length = marks k xs.length := by unfold mkTo; simp
/-- What marking does. -/
def MarkedI (w : World) (base : Nat) (A : Option Addr) (n cap : Nat) (k : Int) (e : Ending) (w' : World) : Prop :=
  e = .returned (.int .i64 (k + n)) ∧ Own w' base A n cap (marks k n) ∧ w.grownBy w' (Value.slice A n cap).ownBlock
theorem Own.form {w : World} {base : Nat} {A : Option Addr} {n cap : Nat} {xs : List Int} (h : Own w base A n cap xs) (hn : 0 < n) : ∃ g, A = some ⟨g, 0, none⟩ := by
  obtain ⟨g, cap', hv, _⟩ := h.2.form hn
  injection hv with hA
  exact ⟨g, hA⟩

set_option maxHeartbeats 1000000 in
theorem markIntS_any {w : World} {base : Nat} {A : Option Addr} {n cap : Nat} {xs : List Int} (h : Own w base A n cap xs) (hn : n ≤ 1048576) (k : Int) (hk0 : 0 ≤ k) (hk : k ≤ 1099511627776) :
    Calls Try.prog 25 #[.slice A n cap, .int .i64 k] w (MarkedI w base A n cap k) := by
  by_cases h0 : n = 0
  · subst h0
    have HO := hid h; clear h
    go_enter Try.func25, Try.ntmps25
    go_wp2_with fail
    refine wp_loop_rounds 1 ?_; rw [rounds_succ]
    go_wp2
    go_ret
    exact ⟨ret_int (by simp), ⟨rfl, by have := HO.out; have e := this.1; cases xs with
      | nil => exact this.2
      | cons a l => simp at e⟩, World.grownBy.refl _ _⟩
  · obtain ⟨g, rfl⟩ := h.form (by omega)
    have hl := h.1
    have HO := hid h; clear h
    go_enter Try.func25, Try.ntmps25
    go_wp2
    go_loopw [1, 5] (fun q i wr => ∃ j : Nat, j ≤ n ∧ i = .int .i64 j ∧ q = .int .i64 (k + (j : Int)) ∧ wr.ownsRow base 3 1 (.slice (some ⟨g, 0, none⟩) n cap) n (ints (mkTo k xs j)) ∧ w.grownBy wr (some g)) (fun _ i _ => n - (intOf i).toNat)
    case atStart => exact ⟨0, Nat.zero_le _, rfl, by simp, by simpa [mkTo, marks] using HO.out.2, World.grownBy.refl _ _⟩
    case round =>
      obtain ⟨j, hj, rfl, rfl, hown, hg⟩ := hrel
      by_cases hlt : j < n
      · have hst := (hown.stored j (.int .i64 (k + (j : Int)))).1
        rw [mkTo_set k xs (by omega)] at hst
        have hcell : wr.cell? ⟨g, j, none⟩ = some (.int .i64 ((mkTo k xs j).getD j 0)) := by
          rw [hown.cellAt j (by omega), ints_get (by rw [mkTo_length k xs (by omega)]; omega)]
        have hfz := hown.frozenAt j
        have hg2 := (hown.stored j (.int .i64 (k + (j : Int)))).2
        have HS := hid hst; clear hst hown
        have HG := hid hg2; clear hg2
        have HG0 := hid hg; clear hg
        generalize (mkTo k xs j).getD j 0 = old at *
        go_wp2
        go_roundw
        case rel => exact ⟨j + 1, by omega, by go_num, by go_num, HS.out, ⟨HG.out.os.trans HG0.out.os, HG.out.tape.trans HG0.out.tape, HG.out.output.trans HG0.out.output, Nat.le_trans HG0.out.size HG.out.size, fun i hi hne => (HG.out.block i (Nat.lt_of_lt_of_le hi HG0.out.size) hne).trans (HG0.out.block i hi hne)⟩⟩
        case measure => simp [intOf]; omega
      · obtain rfl : j = n := by omega
        go_wp2
        go_ret
        subst hl
        rw [mkTo_all] at hown
        exact ⟨rfl, ⟨marks_length _ _, hown⟩, hg⟩
set_option maxHeartbeats 1000000 in
theorem heldIntS_any {w : World} {A : Option Addr} {n cap : Nat} {k : Int} (h : RdI w A n (marks k n)) (hn : n ≤ 1048576) (hk0 : 0 ≤ k) (hk : k ≤ 1099511627776) :
    Calls Try.prog 30 #[.slice A n cap, .int .i64 k] w fun e w' => e = .returned (.int .i64 (k + n)) ∧ w = w' := by
  have HA := hid h; clear h
  go_enter Try.func30, Try.ntmps30
  go_wp2
  go_loop [1, 5] (fun q i => ∃ j : Nat, j ≤ n ∧ i = .int .i64 j ∧ q = .int .i64 (k + (j : Int))) (fun _ i => n - (intOf i).toNat)
  case atStart => exact ⟨0, Nat.zero_le _, rfl, by simp⟩
  case round =>
    obtain ⟨j, hj, rfl, rfl⟩ := hrel
    by_cases hlt : j < n
    · obtain ⟨ad, rfl, ha⟩ := HA.out.at_ hlt
      rw [marks_getD hlt] at ha
      go_wp2
      go_round
      case rel => exact ⟨j + 1, by omega, by go_num, by go_num⟩
      case measure => simp [intOf]; omega
    · obtain rfl : j = n := by omega
      go_wp2
      go_ret
      exact ⟨rfl, rfl⟩
end Go.Proofs.Ythjgapjagfjamaa
