/- Numbers read from texts: by contract in both programs. Conditions: the library's table as it is laid, ErrSyntax some error. -/
import Derived.Test.YtpfocjdhjkifmaaDoorPinM
import Derived.Test.YtpfocjdhjkifmaaDoorSplA
import Derived.Test.YtpfocjdhjkifmaaDoorModA0
import Derived.Lib.SmallJoins
import Derived.Deep.DeepCutAuto
namespace Go.Proofs.YtpfocjdhjkifmaaDoor
open Go.RowKit
set_option linter.unusedVariables false

/-- The library's error holds some error. -/
abbrev ErrS (w : World) : Prop := ∃ ev, w.cell? ⟨0, 0, none⟩ = some ev ∧ (ev = .nilIface ∨ ∃ te pe, ev = .iface te pe)
theorem ErrS.below {w w' : World} (h : ErrS w) (hb : Below w.heap.size w w') : ErrS w' := by
  obtain ⟨m, hm, h2⟩ := h
  exact ⟨m, (hb.cell (World.block_lt_of_cell? w _ hm)).trans hm, h2⟩
theorem pin_none {l : List UInt8} (h : piO l = none) : piN l = 0 ∧ piB l = false := by unfold piN piB; rw [h]; exact ⟨rfl, rfl⟩
theorem pin_some {l : List UInt8} {n : Int} (h : piO l = some n) : piN l = n ∧ piB l = true := by unfold piN piB; rw [h]; exact ⟨rfl, rfl⟩
set_option maxRecDepth 100000 in
set_option maxHeartbeats 1000000 in
theorem iParseInt_any {w : World} (hp : Pow10 w) (he : ErrS w) (s : ByteArray) : Calls Tryd.prog 24 #[.string s] w fun e w' => e = .returned (.tuple #[.int .i64 (piN s.data.toList), .bool (piB s.data.toList)]) ∧ Below w.heap.size w w' := by
  have hL : s.data.toList.length = s.size := by rw [Array.length_toList]; rfl
  by_cases hs : 1 ≤ s.size ∧ s.size ≤ 10
  · cases ha : Lib.atoi s.data.toList with
    | none =>
      obtain ⟨h1, h2⟩ := pin_none (piO_none ha)
      rw [h1, h2]
      obtain ⟨ev, hv, hev⟩ := he
      have HA := hid (Tryd.strconv_Atoi_err s (by omega) ha ev w hv hev)
      have hs1 : ¬ (s.size : Int) < 1 := by omega
      have hs2 : ¬ (10 : Int) < (s.size : Int) := by omega
      clear ha h1 h2 hv hev hp hs hL
      go_enter Tryd.func24, Tryd.ntmps24
      go_wp2_with fail
      refine HA.out.mono ?_
      rintro e w1 ⟨N, rfl, _, _, hb1⟩
      have HB := hid hb1
      clear hb1
      go_wp2
      go_ret2
      exact ⟨rfl, HB.out⟩
    | some n =>
      have HA := hid (Tryd.strconv_Atoi s n (by omega) ha w)
      have hs1 : ¬ (s.size : Int) < 1 := by omega
      have hs2 : ¬ (10 : Int) < (s.size : Int) := by omega
      by_cases hn : -999999999 ≤ n ∧ n ≤ 999999999
      · have HI := hid (fun (W : World) (hp : Pow10 W) => iFormatInt_any n (by omega) (by omega) hp)
        have hq := st_beq (Lib.itoa n) s
        have HP := hid hp
        have hn1 : ¬ n < -999999999 := by omega
        have hn2 : ¬ 999999999 < n := by omega
        by_cases hi : Lib.itoa n = s.data.toList
        · obtain ⟨h1, h2⟩ := pin_some (piO_yes ha hn hi)
          rw [h1, h2]
          rw [decide_eq_true hi] at hq
          generalize Lib.itoa n = I at *
          clear ha h1 h2 hp he hs hL hi hn
          go_enter Tryd.func24, Tryd.ntmps24
          go_wp2_with fail
          refine HA.out.mono ?_
          rintro e w1 ⟨rfl, t, rfl⟩
          have HB := hid (Joins.below_bytesWorld w.heap.size w 5 t (Nat.le_refl _))
          have HP1 := hid (TabIs_below HP.out HB.out)
          go_wp2_with (go_at_call 13; (with_reducible refine (HI.out _ HP1.out).mono ?_); rintro e w2 ⟨rfl, hb2⟩; have HB2 := hid (Below.step HB.out hb2); clear hb2)
          go_ret2
          exact ⟨rfl, HB2.out⟩
        · obtain ⟨h1, h2⟩ := pin_none (piO_no ha (fun h => hi h.2))
          rw [h1, h2]
          rw [decide_eq_false hi] at hq
          generalize Lib.itoa n = I at *
          clear ha h1 h2 hp he hs hL hi hn
          go_enter Tryd.func24, Tryd.ntmps24
          go_wp2_with fail
          refine HA.out.mono ?_
          rintro e w1 ⟨rfl, t, rfl⟩
          have HB := hid (Joins.below_bytesWorld w.heap.size w 5 t (Nat.le_refl _))
          have HP1 := hid (TabIs_below HP.out HB.out)
          go_wp2_with (go_at_call 13; (with_reducible refine (HI.out _ HP1.out).mono ?_); rintro e w2 ⟨rfl, hb2⟩; have HB2 := hid (Below.step HB.out hb2); clear hb2)
          go_ret2
          exact ⟨rfl, HB2.out⟩
      · obtain ⟨h1, h2⟩ := pin_none (piO_no ha (fun h => hn h.1))
        rw [h1, h2]
        rcases (show n < -999999999 ∨ (¬ n < -999999999 ∧ 999999999 < n) by omega) with h3 | ⟨h3, h4⟩
        all_goals
          clear ha h1 h2 hp he hs hL hn
          go_enter Tryd.func24, Tryd.ntmps24
          go_wp2_with fail
          refine HA.out.mono ?_
          rintro e w1 ⟨rfl, t, rfl⟩
          have HB := hid (Joins.below_bytesWorld w.heap.size w 5 t (Nat.le_refl _))
          go_wp2
          go_ret2
          exact ⟨rfl, HB.out⟩
  · obtain ⟨h1, h2⟩ := pin_none (piO_long (l := s.data.toList) (by omega))
    rw [h1, h2]
    rcases (show (s.size : Int) < 1 ∨ (¬ (s.size : Int) < 1 ∧ (10 : Int) < (s.size : Int)) by omega) with h3 | ⟨h3, h4⟩
    all_goals
      clear h1 h2 hp he hs hL
      go_enter Tryd.func24, Tryd.ntmps24
      go_wp2
      go_ret2
      exact ⟨rfl, Below.refl _ _⟩
end Go.Proofs.YtpfocjdhjkifmaaDoor
