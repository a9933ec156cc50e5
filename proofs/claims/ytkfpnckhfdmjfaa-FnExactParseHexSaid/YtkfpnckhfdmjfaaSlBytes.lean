/- Slices of bytes: copied, compared, marked, held against marks: each helper of the laws by its contract. Conditions: at most 2^20 elements. -/
import Derived.Test.YtkfpnckhfdmjfaaSlG
namespace Go.Proofs.Ytkfpnckhfdmjfaa
open Go.RowKit
set_option linter.unusedVariables false

theorem byte_info : (Try.prog.info? 5).map (fun i => (i.zero, i.size, i.bytes)) = some (some (.int .u8 0), 1, 1) := by kernel_rfl
abbrev bV : Int → Value := Value.int .u8
abbrev OwnB := OwnG bV 5
abbrev RdB := RdG bV
abbrev MadeB := MadeG bV 5
/-- The mark at place i. -/
def mkB (k : Int) (i : Nat) : Int := IntKind.u8.wrap (k + (i : Int))

set_option maxHeartbeats 1000000 in
theorem toByteS_any {w : World} {A : Option Addr} {n cap : Nat} {xs : List Int} (h : RdB w A n xs) (hn : n ≤ 1048576) : Calls Try.prog 18 #[.slice A n cap] w (MadeB w xs) := by
  have hl := h.1
  obtain ⟨i0, hi, hz0, hz1, hz2⟩ := info_parts byte_info
  have HR := hid h; clear h
  have HI := hid (And.intro hi (And.intro hz0 (And.intro hz1 hz2))); clear hi hz0 hz1 hz2
  go_enter Try.func18, Try.ntmps18
  go_wp2_with (at_make; refine wpList_make_full _ rfl _ _ 24 rfl w.heap.size 5 i0 (.int .u8 0) 1 Try.underlying24 HI.out.1 HI.out.2.1 HI.out.2.2.1 .i64 .i64 n n n rfl rfl rfl rfl ?c1 ?c2 (Nat.le_refl _) ?_)
  case c1 => rw [HI.out.2.2.2]; omega
  case c2 => unfold maxLen; omega
  intro w1 hown hg
  have hb1 : Below w.heap.size w w1 := (Below.refl _ _).grown hg (Nat.le_refl _) (fun k hk => by cases hk)
  rw [← fillG_zero bV 0 xs n] at hown
  clear hg
  go_wp2
  go_loopw [4] (fun i wr => ∃ k : Nat, k ≤ n ∧ i = .int .i64 k ∧ wr.ownsRow w.heap.size 5 1 (.slice (some ⟨w.heap.size, 0, none⟩) n n) n ((fillG 0 xs n k).map bV) ∧ Below w.heap.size w wr) (fun i _ => n - (intOf i).toNat)
  case atStart => exact ⟨0, Nat.zero_le _, rfl, hown, hb1⟩
  case round =>
    clear hown hb1
    obtain ⟨k, hk, rfl, hown, hbel⟩ := hrel
    by_cases hlt : k < n
    · obtain ⟨ad, rfl, hc⟩ := (HR.out.below hbel).at_ 0 hlt
      have hst := hown.stored k (.int .u8 (xs.getD k 0))
      rw [fillG_set bV 0 xs hl hlt] at hst
      have hcell : wr.cell? ⟨w.heap.size, k, none⟩ = some (.int .u8 ((fillG 0 xs n k).getD k 0)) := by
        rw [hown.cellAt k (by omega), map_getD bV 0 (by rw [fillG_length 0 xs hl hk]; exact hlt)]
      have hfz := hown.frozenAt k
      have HS := hid hst; clear hst hown
      simp only [bV] at hc
      generalize (fillG 0 xs n k).getD k 0 = old at *
      generalize xs.getD k 0 = v at *
      go_wp2
      go_roundw
      case rel => exact ⟨k + 1, by omega, by go_num, HS.out.1, Below.setCell hbel (Nat.le_refl _) _⟩
      case measure => simp [intOf]; omega
    · obtain rfl : k = n := by omega
      go_wp2
      go_ret
      subst hl
      rw [fillG_all] at hown
      exact ⟨_, _, rfl, ⟨rfl, hown⟩, hbel⟩
set_option maxHeartbeats 1000000 in
/-- Two slices that read as the same bytes. -/
theorem eqByteS_same {w : World} {A B : Option Addr} {n c d : Nat} {xs : List Int} (h : RdB w A n xs) (h' : RdB w B n xs) (hn : n ≤ 1048576) : Calls Try.prog 20 #[.slice A n c, .slice B n d] w fun e w' => e = .returned (.bool true) ∧ Below w.heap.size w w' := by
  have HA := hid h; clear h
  have HB := hid h'; clear h'
  go_enter Try.func20, Try.ntmps20
  go_wp2
  go_loopw [5] (fun i wr => ∃ k q : Nat, k ≤ n ∧ i = .int .i64 k ∧ wr = w.drewN q) (fun i _ => n - (intOf i).toNat)
  case atStart => exact ⟨0, 0, Nat.zero_le _, rfl, rfl⟩
  case round =>
    obtain ⟨k, q, hk, rfl, rfl⟩ := hrel
    by_cases hlt : k < n
    · obtain ⟨ad, rfl, ha⟩ := HA.out.at_ 0 hlt
      obtain ⟨bd, rfl, hb⟩ := HB.out.at_ 0 hlt
      have hk0 : (0 : Int) ≤ (k : Int) := by omega
      have hkn : (k : Int) < (n : Int) := by omega
      simp only [bV] at ha hb
      generalize xs.getD k 0 = v at *
      go_wp2
      go_quiet (fail)
      go_wp2
      go_roundw
      case rel => exact ⟨k + 1, _, by omega, by go_num, rfl⟩
      case measure => simp [intOf]; omega
    · obtain rfl : k = n := by omega
      go_wp2
      go_ret
      exact ⟨rfl, below_drewN (Below.refl _ _) _⟩

set_option maxHeartbeats 1000000 in
theorem markByteS_any {w : World} {base : Nat} {A : Option Addr} {n cap : Nat} {xs : List Int} (h : OwnB w base A n cap xs) (hn : n ≤ 1048576) (k : Int) (hk0 : 0 ≤ k) (hk : k ≤ 1099511627776) :
    Calls Try.prog 35 #[.slice A n cap, .int .i64 k] w (MarkedG bV 5 (mkB k) w base A n cap k) := by
  by_cases h0 : n = 0
  · subst h0
    have HO := hid h; clear h
    go_enter Try.func35, Try.ntmps35
    go_wp2_with fail
    refine wp_loop_rounds 1 ?_; rw [rounds_succ]
    go_wp2
    go_ret
    exact ⟨ret_int (by simp), ⟨rfl, by have := HO.out; have e := this.1; cases xs with
      | nil => exact this.2
      | cons a l => simp at e⟩, World.grownBy.refl _ _⟩
  · obtain ⟨g, rfl⟩ := h.form (by omega)
    have hl := h.1
    have HO := hid h; clear h
    go_enter Try.func35, Try.ntmps35
    go_wp2
    go_loopw [1, 5] (fun q i wr => ∃ j : Nat, j ≤ n ∧ i = .int .i64 j ∧ q = .int .i64 (k + (j : Int)) ∧ wr.ownsRow base 5 1 (.slice (some ⟨g, 0, none⟩) n cap) n ((mkToG (mkB k) xs j).map bV) ∧ w.grownBy wr (some g)) (fun _ i _ => n - (intOf i).toNat)
    case atStart => exact ⟨0, Nat.zero_le _, rfl, by simp, by simpa [mkToG, marksG] using HO.out.2, World.grownBy.refl _ _⟩
    case round =>
      obtain ⟨j, hj, rfl, rfl, hown, hg⟩ := hrel
      by_cases hlt : j < n
      · have hst := (hown.stored j (.int .u8 (mkB k j))).1
        rw [mkToG_set bV (mkB k) xs (by omega)] at hst
        have hcell : wr.cell? ⟨g, j, none⟩ = some (.int .u8 ((mkToG (mkB k) xs j).getD j 0)) := by
          rw [hown.cellAt j (by omega), map_getD bV 0 (by rw [mkToG_length _ xs (by omega)]; omega)]
        have hfz := hown.frozenAt j
        have hg2 := (hown.stored j (.int .u8 (mkB k j))).2
        have HS := hid hst; clear hst hown
        have HG := hid hg2; clear hg2
        have HG0 := hid hg; clear hg
        generalize (mkToG (mkB k) xs j).getD j 0 = old at *
        go_wp2
        go_roundw
        case rel => exact ⟨j + 1, by omega, by go_num, by go_num, HS.out, grown_trans HG0.out HG.out⟩
        case measure => simp [intOf]; omega
      · obtain rfl : j = n := by omega
        go_wp2
        go_ret
        subst hl
        rw [mkToG_all] at hown
        exact ⟨rfl, ⟨marksG_length _ _, hown⟩, hg⟩
set_option maxHeartbeats 1000000 in
theorem heldByteS_any {w : World} {A : Option Addr} {n cap : Nat} {k : Int} (h : RdB w A n (marksG (mkB k) n)) (hn : n ≤ 1048576) (hk0 : 0 ≤ k) (hk : k ≤ 1099511627776) :
    Calls Try.prog 36 #[.slice A n cap, .int .i64 k] w fun e w' => e = .returned (.int .i64 (k + n)) ∧ w = w' := by
  have HA := hid h; clear h
  go_enter Try.func36, Try.ntmps36
  go_wp2
  go_loop [1, 5] (fun q i => ∃ j : Nat, j ≤ n ∧ i = .int .i64 j ∧ q = .int .i64 (k + (j : Int))) (fun _ i => n - (intOf i).toNat)
  case atStart => exact ⟨0, Nat.zero_le _, rfl, by simp⟩
  case round =>
    obtain ⟨j, hj, rfl, rfl⟩ := hrel
    by_cases hlt : j < n
    · obtain ⟨ad, rfl, ha⟩ := HA.out.at_ 0 hlt
      rw [marksG_getD 0 hlt] at ha
      simp only [bV, mkB] at ha
      go_wp2
      go_round
      case rel => exact ⟨j + 1, by omega, by go_num, by go_num⟩
      case measure => simp [intOf]; omega
    · obtain rfl : j = n := by omega
      go_wp2
      go_ret
      exact ⟨rfl, rfl⟩
end Go.Proofs.Ytkfpnckhfdmjfaa
