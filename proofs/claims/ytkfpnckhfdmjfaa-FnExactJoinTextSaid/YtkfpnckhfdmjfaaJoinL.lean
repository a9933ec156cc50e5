/- The law that JoinText answers as the reference. Conditions: none. -/
import Derived.Test.YtkfpnckhfdmjfaaJoinA
import Derived.Test.YtkfpnckhfdmjfaaSlStrs
namespace Go.Proofs.Ytkfpnckhfdmjfaa
open Go.RowKit
set_option linter.unusedVariables false

set_option maxHeartbeats 1000000 in
theorem szStringS_any {w : World} {A : Option Addr} {n cap : Nat} {xs : List ByteArray} (h : RdT w A n xs) (hn : n ≤ maxLen) (hs : ∀ z ∈ xs, z.size ≤ maxLen) :
    Calls Try.prog 44 #[.slice A n cap, .int .i64 1048576] w fun e w' => (∃ r : Int, e = .returned (.int .i64 r) ∧ (r = -1 ∨ (0 ≤ r ∧ n + sumT xs n ≤ 1048576))) ∧ w = w' := by
  have hl := h.1
  have HA := hid h; clear h
  have HS := hid (fun (j : Nat) (hj : j < n) => (show (xs.getD j ByteArray.empty).size ≤ 9223372036854775807 by
    have h1 := hs (xs.getD j ByteArray.empty) (by rw [List.getD_eq_getElem?_getD, List.getElem?_eq_getElem (by omega)]; exact List.getElem_mem _)
    unfold maxLen at h1; exact h1))
  have HQ := hid (fun (j : Nat) (hj : j < n) => sumT_succ xs j (by omega))
  clear hs hl
  unfold maxLen at hn
  by_cases hbig : 1048576 < n
  · go_enter Try.func44, Try.ntmps44
    go_wp2
    go_ret
    exact ⟨⟨-1, rfl, .inl rfl⟩, rfl⟩
  · have hb2 : ¬ ((1048576 : Int) - n < 0) := by omega
    have hz : sumT xs 0 = 0 := rfl
    have HZ := hid hz; clear hz
    go_enter Try.func44, Try.ntmps44
    go_wp2
    go_loop [1, 5] (fun l i => ∃ j : Nat, j ≤ n ∧ i = .int .i64 j ∧ l = .int .i64 (1048576 - (n : Int) - (sumT xs j : Int)) ∧ n + sumT xs j ≤ 1048576) (fun _ i => n - (intOf i).toNat)
    case atStart => exact ⟨0, Nat.zero_le _, rfl, by rw [HZ.out]; simp, by rw [HZ.out]; omega⟩
    case round =>
      obtain ⟨j, hj, rfl, rfl, hs⟩ := hrel
      by_cases hlt : j < n
      · obtain ⟨ad, rfl, ha⟩ := HA.out.at_ ByteArray.empty hlt
        have ha : w.cell? (ad.add j) = some (.string (xs.getD j ByteArray.empty)) := ha
        have hsz := HS.out j hlt
        have hq := HQ.out j hlt
        generalize xs.getD j ByteArray.empty = x at *
        have HQ1 := hid hq; clear hq
        by_cases hneg : 1048576 < n + sumT xs j + x.size
        · have h3 : (1048576 : Int) - n - (sumT xs j : Int) - (x.size : Int) < 0 := by omega
          go_wp2
          go_ret
          exact ⟨⟨-1, rfl, .inl rfl⟩, rfl⟩
        · have h3 : ¬ ((1048576 : Int) - n - (sumT xs j : Int) - (x.size : Int) < 0) := by omega
          go_wp2
          go_round
          case rel => exact ⟨j + 1, by omega, by go_num, by rw [HQ1.out]; go_num, by rw [HQ1.out]; omega⟩
          case measure => simp [intOf]; omega
      · obtain rfl : j = n := by omega
        go_wp2
        go_ret
        exact ⟨⟨1048576 - (j : Int) - (sumT xs j : Int), rfl, Or.inr (by first | omega | exact ⟨by omega, hs⟩)⟩, rfl⟩
set_option maxRecDepth 100000 in
set_option maxHeartbeats 1000000 in
theorem walk_FnExactJoinText (A : Option Addr) (n cap : Nat) (xs : List ByteArray) (w : World) (hin : xs.length = n ∧ n ≤ maxLen ∧ Reads w w.heap.size 1 A n (xs.map Value.string) ∧ ∀ z ∈ xs, z.size ≤ maxLen) (sep : ByteArray) (hm : sep.size ≤ maxLen) :
    Calls Try.prog 13 #[.slice A n cap, .string sep] w fun e w' => e = .returned (.bool true) ∧ Below w.heap.size w w' := by
  obtain ⟨hl, hmx, hrd, hsz⟩ := hin
  have hR : RdT w A n xs := ⟨hl, hrd⟩
  have HZ := hid (szStringS_any (cap := cap) hR hmx hsz)
  have HR := hid hR
  clear hR hrd hsz
  unfold maxLen at hmx hm
  by_cases hbig : 1048576 < sep.size
  · go_enter Try.func13, Try.ntmps13
    go_wp2
    go_ret
    exact ⟨rfl, Below.refl _ _⟩
  · subst hl
    have HS := hid (fun (W : World) (A : Option Addr) (c : Nat) (h : RdT W A xs.length xs) (hq : xs.length + sumT xs xs.length ≤ 1048576) => sJoinText_any (cap := c) h sep (by
      have h1 : xs.length * sep.size ≤ 1048576 * 1048576 := Nat.mul_le_mul (by omega) (by omega)
      omega) (by omega) (by omega))
    have HI := hid (fun (W : World) (b : Nat) (A : Option Addr) (c : Nat) (h : OwnT W b A xs.length c xs) (hq : xs.length + sumT xs xs.length ≤ 1048576) => iJoinText_any (cap := c) h sep (by
      have h1 : xs.length * sep.size ≤ 1048576 * 1048576 := Nat.mul_le_mul (by omega) (by omega)
      omega) (by omega))
    go_enter Try.func13, Try.ntmps13
    go_wp2_with fail
    refine HZ.out.mono ?_
    rintro e w' ⟨⟨r, rfl, hr⟩, rfl⟩
    rcases hr with rfl | ⟨hr0, hq⟩
    · go_wp2
      go_ret
      exact ⟨rfl, Below.refl _ _⟩
    · have HN : xs.length ≤ 1048577 := by omega
      have hr1 : ¬ r < 0 := by omega
      go_wp2_with fail
      refine (toStringS_any HR.out HN).mono ?_
      rintro e w1 ⟨A1, c1, rfl, ho1, hb1⟩
      have HO1 := hid ho1; clear ho1
      have HR1 := hid (HR.out.below hb1)
      have HB1 := hid hb1; clear hb1
      go_wp2_with fail
      refine (HS.out _ _ _ HO1.out.rd hq).mono ?_
      rintro e w2 ⟨rfl, hb2⟩
      have HR2 := hid (HR1.out.below hb2)
      have HB2 := hid (Below.step HB1.out hb2); clear hb2
      go_wp2_with fail
      refine (toStringS_any HR2.out HN).mono ?_
      rintro e w3 ⟨A3, c3, rfl, ho3, hb3⟩
      have HO3 := hid ho3; clear ho3
      have HR3 := hid (HR2.out.below hb3)
      have HB3 := hid (Below.step HB2.out hb3); clear hb3
      go_wp2_with fail
      refine (HI.out _ _ _ _ HO3.out hq).mono ?_
      rintro e w4 ⟨rfl, hb4⟩
      have HO4 := hid (HO3.out.below hb4)
      have HR4 := hid (HR3.out.below hb4)
      have HB4 := hid (Below.step HB3.out hb4); clear hb4
      go_wp2_with fail
      refine (toStringS_any HR4.out HN).mono ?_
      rintro e w5 ⟨A5, c5, rfl, ho5, hb5⟩
      have HO5 := hid ho5; clear ho5
      have HO45 := hid (HO4.out.below hb5)
      have HB5 := hid (Below.step HB4.out hb5); clear hb5
      go_wp2_with fail
      refine (eqStringS_same HO45.out.rd HO5.out.rd HN).mono ?_
      rintro e w6 ⟨rfl, hb6⟩
      have HB6 := hid (Below.step HB5.out hb6); clear hb6
      go_wp2
      go_ret
      exact ⟨rfl, HB6.out⟩
end Go.Proofs.Ytkfpnckhfdmjfaa
