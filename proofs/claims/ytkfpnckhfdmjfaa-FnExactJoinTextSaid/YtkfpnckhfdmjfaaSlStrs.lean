/- Slices of strings: copied, compared, marked, held against marks: each helper of the laws by its contract. Conditions: at most 2^20 + 1 elements. -/
import Derived.Test.YtkfpnckhfdmjfaaSlG
import Derived.Test.YtkfpnckhfdmjfaaMarkT
namespace Go.Proofs.Ytkfpnckhfdmjfaa
open Go.RowKit
set_option linter.unusedVariables false

/-- The mark at place i. -/
def mkT (i : Nat) : ByteArray := mt (1 + i)

set_option maxHeartbeats 1000000 in
theorem toStringS_any {w : World} {A : Option Addr} {n cap : Nat} {xs : List ByteArray} (h : RdT w A n xs) (hn : n ≤ 1048577) : Calls Try.prog 46 #[.slice A n cap] w (MadeT w xs) := by
  have hl := h.1
  obtain ⟨i0, hi, hz0, hz1, hz2⟩ := info_parts string_info
  have HR := hid h; clear h
  have HI := hid (And.intro hi (And.intro hz0 (And.intro hz1 hz2))); clear hi hz0 hz1 hz2
  go_enter Try.func46, Try.ntmps46
  go_wp2_with (at_make; refine wpList_make_full _ rfl _ _ 37 rfl w.heap.size 9 i0 (.string ByteArray.empty) 1 Try.underlying37 HI.out.1 HI.out.2.1 HI.out.2.2.1 .i64 .i64 n n n rfl rfl rfl rfl ?c1 ?c2 (Nat.le_refl _) ?_)
  case c1 => rw [HI.out.2.2.2]; omega
  case c2 => unfold maxLen; omega
  intro w1 hown hg
  have hb1 : Below w.heap.size w w1 := (Below.refl _ _).grown hg (Nat.le_refl _) (fun k hk => by cases hk)
  rw [← fillG_zero sV ByteArray.empty xs n] at hown
  clear hg
  go_wp2
  go_loopw [4] (fun i wr => ∃ k : Nat, k ≤ n ∧ i = .int .i64 k ∧ wr.ownsRow w.heap.size 9 1 (.slice (some ⟨w.heap.size, 0, none⟩) n n) n ((fillG ByteArray.empty xs n k).map sV) ∧ Below w.heap.size w wr) (fun i _ => n - (intOf i).toNat)
  case atStart => exact ⟨0, Nat.zero_le _, rfl, hown, hb1⟩
  case round =>
    clear hown hb1
    obtain ⟨k, hk, rfl, hown, hbel⟩ := hrel
    by_cases hlt : k < n
    · obtain ⟨ad, rfl, hc⟩ := (HR.out.below hbel).at_ ByteArray.empty hlt
      have hst := hown.stored k (.string (xs.getD k ByteArray.empty))
      rw [fillG_set sV ByteArray.empty xs hl hlt] at hst
      have hcell : wr.cell? ⟨w.heap.size, k, none⟩ = some (.string ((fillG ByteArray.empty xs n k).getD k ByteArray.empty)) := by
        rw [hown.cellAt k (by omega), map_getD sV ByteArray.empty (by rw [fillG_length ByteArray.empty xs hl hk]; exact hlt)]
      have hfz := hown.frozenAt k
      have HS := hid hst; clear hst hown
      simp only [sV] at hc
      generalize (fillG ByteArray.empty xs n k).getD k ByteArray.empty = old at *
      generalize xs.getD k ByteArray.empty = v at *
      go_wp2
      go_roundw
      case rel => exact ⟨k + 1, by omega, by go_num, HS.out.1, Below.setCell hbel (Nat.le_refl _) _⟩
      case measure => simp [intOf]; omega
    · obtain rfl : k = n := by omega
      go_wp2
      go_ret
      subst hl
      rw [fillG_all] at hown
      exact ⟨_, _, rfl, ⟨rfl, hown⟩, hbel⟩
set_option maxHeartbeats 1000000 in
/-- Two slices that read as the same bytes. -/
theorem eqStringS_same {w : World} {A B : Option Addr} {n c d : Nat} {xs : List ByteArray} (h : RdT w A n xs) (h' : RdT w B n xs) (hn : n ≤ 1048577) : Calls Try.prog 28 #[.slice A n c, .slice B n d] w fun e w' => e = .returned (.bool true) ∧ Below w.heap.size w w' := by
  have HA := hid h; clear h
  have HB := hid h'; clear h'
  go_enter Try.func28, Try.ntmps28
  go_wp2
  go_loopw [5] (fun i wr => ∃ k q : Nat, k ≤ n ∧ i = .int .i64 k ∧ wr = w.drewN q) (fun i _ => n - (intOf i).toNat)
  case atStart => exact ⟨0, 0, Nat.zero_le _, rfl, rfl⟩
  case round =>
    obtain ⟨k, q, hk, rfl, rfl⟩ := hrel
    by_cases hlt : k < n
    · obtain ⟨ad, rfl, ha⟩ := HA.out.at_ ByteArray.empty hlt
      obtain ⟨bd, rfl, hb⟩ := HB.out.at_ ByteArray.empty hlt
      have hk0 : (0 : Int) ≤ (k : Int) := by omega
      have hkn : (k : Int) < (n : Int) := by omega
      simp only [sV] at ha hb
      generalize xs.getD k ByteArray.empty = v at *
      go_wp2
      go_quiet (fail)
      go_wp2
      go_roundw
      case rel => exact ⟨k + 1, _, by omega, by go_num, rfl⟩
      case measure => simp [intOf]; omega
    · obtain rfl : k = n := by omega
      go_wp2
      go_ret
      exact ⟨rfl, below_drewN (Below.refl _ _) _⟩

set_option maxHeartbeats 1000000 in
theorem markStringS_any {w : World} {base : Nat} {A : Option Addr} {n cap : Nat} {xs : List ByteArray} (h : OwnT w base A n cap xs) (hn : n ≤ 1048577) :
    Calls Try.prog 29 #[.slice A n cap, .int .i64 1] w (MarkedG sV 9 mkT w base A n cap 1) := by
  have HM := hid (fun (j : Nat) (hj : j < n) => markText_at j (by omega))
  by_cases h0 : n = 0
  · subst h0
    have HO := hid h; clear h
    go_enter Try.func29, Try.ntmps29
    go_wp2_with fail
    refine wp_loop_rounds 1 ?_; rw [rounds_succ]
    go_wp2
    go_ret
    exact ⟨ret_int (by simp), ⟨rfl, by have := HO.out; have e := this.1; cases xs with
      | nil => exact this.2
      | cons a l => simp at e⟩, World.grownBy.refl _ _⟩
  · obtain ⟨g, rfl⟩ := h.form (by omega)
    have hl := h.1
    have HO := hid h; clear h
    go_enter Try.func29, Try.ntmps29
    go_wp2
    go_loopw [1, 5] (fun q i wr => ∃ j : Nat, j ≤ n ∧ i = .int .i64 j ∧ q = .int .i64 (1 + (j : Int)) ∧ wr.ownsRow base 9 1 (.slice (some ⟨g, 0, none⟩) n cap) n ((mkToG mkT xs j).map sV) ∧ w.grownBy wr (some g)) (fun _ i _ => n - (intOf i).toNat)
    case atStart => exact ⟨0, Nat.zero_le _, rfl, by simp, by simpa [mkToG, marksG] using HO.out.2, World.grownBy.refl _ _⟩
    case round =>
      obtain ⟨j, hj, rfl, rfl, hown, hg⟩ := hrel
      by_cases hlt : j < n
      · have HOwn := hid hown; clear hown
        have HG0 := hid hg; clear hg
        have H1 := hid (HM.out j hlt)
        have hlt2 : (j : Int) < (n : Int) := by omega
        have hj2 : (j : Int) ≤ 1048577 := by omega
        have hml : (mkToG mkT xs j).length = n := by rw [mkToG_length _ xs (by omega), hl]
        have HML := hid hml; clear hml
        go_wp2_with (go_at_call 55; (with_reducible refine (H1.out _).mono ?_); rintro e w1 ⟨rfl, hb1⟩; have HB1 := hid hb1; have HOw1 := hid (ownsRow_below HOwn.out hb1); have hcell := (HOw1.out.cellAt j (by omega)).trans (map_getD sV ByteArray.empty (by rw [HML.out]; exact hlt)); have hfz := HOw1.out.frozenAt j; clear hb1)
        go_roundw
        case rel =>
          have hst := HOw1.out.stored j (.string (mkT j))
          have hst1 := hst.1
          rw [mkToG_set sV mkT xs (by omega)] at hst1
          exact ⟨j + 1, by omega, by go_num, by go_num, hst1, grown_trans (grown_trans HG0.out ⟨HB1.out.os, HB1.out.tape, HB1.out.output, HB1.out.size, fun i hi _ => HB1.out.block i hi⟩) hst.2⟩
        case measure => simp [intOf]; omega
      · obtain rfl : j = n := by omega
        go_wp2
        go_ret
        subst hl
        rw [mkToG_all] at hown
        exact ⟨rfl, ⟨marksG_length _ _, hown⟩, hg⟩
set_option maxHeartbeats 1000000 in
theorem heldStringS_any {w : World} {A : Option Addr} {n cap : Nat} (h : RdT w A n (marksG mkT n)) (hn : n ≤ 1048577) :
    Calls Try.prog 30 #[.slice A n cap, .int .i64 1] w fun e w' => e = .returned (.int .i64 (1 + n)) ∧ Below w.heap.size w w' := by
  have HM := hid (fun (j : Nat) (hj : j < n) => markText_at j (by omega))
  have HA := hid h; clear h
  go_enter Try.func30, Try.ntmps30
  go_wp2
  go_loopw [1, 5] (fun q i wr => ∃ j : Nat, j ≤ n ∧ i = .int .i64 j ∧ q = .int .i64 (1 + (j : Int)) ∧ Below w.heap.size w wr) (fun _ i _ => n - (intOf i).toNat)
  case atStart => exact ⟨0, Nat.zero_le _, rfl, by simp, Below.refl _ _⟩
  case round =>
    obtain ⟨j, hj, rfl, rfl, hbel⟩ := hrel
    by_cases hlt : j < n
    · obtain ⟨ad, rfl, ha⟩ := (HA.out.below hbel).at_ ByteArray.empty hlt
      rw [marksG_getD ByteArray.empty hlt] at ha
      simp only [sV, mkT] at ha
      have hab := World.block_lt_of_cell? _ _ ha
      have H1 := hid (HM.out j hlt)
      have hlt2 : (j : Int) < (n : Int) := by omega
      have hj2 : (j : Int) ≤ 1048577 := by omega
      go_wp2_with fail
      go_region_held3 (fun w' => w'.cell? (ad.add j) = some (.string (mt (1 + j))) ∧ Below wr.heap.size wr w') (and_intros <;> first | assumption | (exact Below.drew (by assumption)) | (exact Below.drew (Below.refl _ _)) | (exact RdS.drew (by assumption)) | (simp (maxDischargeDepth := 20) [*]; done)) ((go_at_call 55; (with_reducible refine (H1.out _).mono ?_); rintro e w6 ⟨rfl, hb6⟩; have hk6 := keep_cell (a := ad.add j) (by assumption) hb6; have hq6 : Below wr.heap.size wr w6 := Below.step (a := wr) (by first | assumption | exact Below.drew (by assumption) | exact Below.drew (Below.refl _ _)) hb6))
      all_goals
        go_wp2
        go_roundw
        case rel => exact ⟨j + 1, by omega, by go_num, by go_num, Below.step hbel (by first | assumption | exact Below.drew (by assumption))⟩
        case measure => simp [intOf]; omega
    · obtain rfl : j = n := by omega
      go_wp2
      go_ret
      exact ⟨rfl, hbel⟩
end Go.Proofs.Ytkfpnckhfdmjfaa
