/- The law that ParseEvents answers as the reference. Conditions: the library's table as it is laid, ErrSyntax some error. -/
import Derived.Test.YtpfocjdhjkifmaaDoorPevS
namespace Go.Proofs.YtpfocjdhjkifmaaDoor
open Go.RowKit
set_option linter.unusedVariables false

theorem peL_len (L : List UInt8) : ((peL L).getD []).length ≤ 1048576 := by
  unfold peL
  split
  · simp
  · split
    · rename_i h
      simp only [Bool.and_eq_true, decide_eq_true_eq] at h
      rw [Option.getD_some, List.length_map]; omega
    · simp
set_option maxRecDepth 100000 in
set_option maxHeartbeats 1000000 in
theorem walk_FnExactParseEvents {w : World} (s : ByteArray) (wf : s.size ≤ maxLen) (hp : Pow10 w) (he : ErrS w) : Calls Tryd.prog 10 #[.string s] w fun e w' => e = .returned (.bool true) ∧ Below w.heap.size w w' := by
  by_cases hs : s.size ≤ 1048576
  · have HS := sParseEvents_any (w := w) s hs
    have HI := hid (fun (W : World) (hp : Pow10 W) (he : ErrS W) => iParseEvents_any hp he s hs)
    have hE := peL_len s.data.toList
    generalize (peL s.data.toList).getD [] = ys at *
    generalize (peL s.data.toList).isSome = ok at *
    have HS := hid HS
    have HE := hid hE
    have HP := hid hp
    have HR := hid he
    have hlt : ¬ (1048576 : Int) < (s.size : Int) := by omega
    have hok : (ok != ok) = false := by cases ok <;> rfl
    clear hp he hE hs wf
    go_enter Tryd.func10, Tryd.ntmps10
    go_wp2_with fail
    refine HS.out.mono ?_
    rintro e w1 ⟨A1, c1, rfl, ho1, hb1⟩
    have HO1 := hid ho1
    have HB1 := hid hb1
    clear ho1 hb1
    go_wp2_with fail
    refine (HI.out _ (TabIs_below HP.out HB1.out) (HR.out.below HB1.out)).mono ?_
    rintro e w2 ⟨A2, c2, rfl, ho2, hb2⟩
    have HO2 := hid ho2
    have HO12 := hid (HO1.out.below hb2)
    have HB2 := hid (Below.step HB1.out hb2)
    clear ho2 hb2
    go_wp2_with fail
    refine (eqEventS_same HO2.out.rd HO12.out.rd HE.out).mono ?_
    rintro e w3 ⟨rfl, hb3⟩
    have HO13 := hid (HO12.out.below hb3)
    have HO23 := hid (HO2.out.below hb3)
    have HB3 := hid (Below.step HB2.out hb3); clear hb3
    go_wp2_with fail
    refine (markEventS_any HO23.out HE.out).mono ?_
    rintro e w4 ⟨rfl, ho4, hg4⟩
    have HAP := hid (ownsRow_apart HO1.out.2 HO2.out.2 (Nat.le_refl _))
    have HO14 := hid (HO13.out.keptL hg4 HAP.out)
    have HB4 := hid (below_of_grown HB3.out HO23.out.2 HB1.out.size hg4)
    have HO4 := hid ho4
    clear ho4 hg4
    go_wp2_with fail
    refine (heldEventS_any HO4.out.rd HE.out).mono ?_
    rintro e w' ⟨rfl, rfl⟩
    go_wp2_with fail
    refine (HI.out _ (TabIs_below HP.out HB4.out) (HR.out.below HB4.out)).mono ?_
    rintro e w5 ⟨A5, c5, rfl, ho5, hb5⟩
    have HO5 := hid ho5
    have HO15 := hid (HO14.out.below hb5)
    have HO45 := hid (HO4.out.below hb5)
    have HB5 := hid (Below.step HB4.out hb5)
    clear ho5 hb5
    go_wp2_with fail
    refine (eqEventS_same HO5.out.rd HO15.out.rd HE.out).mono ?_
    rintro e w6 ⟨rfl, hb6⟩
    have HO46 := hid (HO45.out.below hb6)
    have HB6 := hid (Below.step HB5.out hb6); clear hb6
    go_wp2_with fail
    refine (heldEventS_any HO46.out.rd HE.out).mono ?_
    rintro e w' ⟨rfl, rfl⟩
    go_wp2
    go_ret
    exact ⟨rfl, HB6.out⟩
  · have hlt : (1048576 : Int) < (s.size : Int) := by omega
    clear hp he hs wf
    go_enter Tryd.func10, Tryd.ntmps10
    go_wp2
    go_ret
    exact ⟨rfl, Below.refl _ _⟩
end Go.Proofs.YtpfocjdhjkifmaaDoor
