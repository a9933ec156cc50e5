/- The law that FormatEvents answers as the reference. Conditions: the library's table as it is laid. -/
import Derived.Test.YtpfocjdhjkifmaaDoorEvT
import Derived.Test.YtpfocjdhjkifmaaDoorEvS
import Derived.Test.YtpfocjdhjkifmaaDoorEvD0
namespace Go.Proofs.YtpfocjdhjkifmaaDoor
open Go.RowKit
set_option linter.unusedVariables false

set_option maxRecDepth 100000 in
set_option maxHeartbeats 1000000 in
theorem walk_FnExactFormatEvents (A : Option Addr) (n cap : Nat) (xs : List EV.Ev) (w : World) (hin : InEvs w A n xs) (hp : Pow10 w) :
    Calls Tryd.prog 6 #[.slice A n cap] w fun e w' => e = .returned (.bool true) ∧ Below w.heap.size w w' := by
  obtain ⟨hl, hmx, hrd, _⟩ := hin
  have HR := hid (show RdE w A n xs from ⟨hl, hrd⟩)
  subst hl
  have HS := hid (fun (W : World) (A : Option Addr) (c : Nat) (h : RdE W A xs.length xs) => sFormatEvents_any (cap := c) h hmx)
  have HI := hid (fun (W : World) (A : Option Addr) (c : Nat) (h : RdE W A xs.length xs) (hp : Pow10 W) => iFormatEvents_any (cap := c) h hmx hp)
  have HP := hid hp
  clear hp
  clear hrd
  by_cases hbig : xs.length ≤ 1048576
  · have HZ := hid (szEventS_yes (A := A) (cap := cap) hbig)
    have hr1 : ¬ ((1048576 : Int) - (xs.length : Int) < 0) := by omega
    clear hmx
    go_enter Tryd.func6, Tryd.ntmps6
    go_wp2_with (go_at_call 18; (with_reducible refine (HZ.out _).mono ?_); rintro e w' ⟨rfl, rfl⟩)
    refine (toEventS_any HR.out hbig).mono ?_
    rintro e w1 ⟨A1, c1, rfl, ho1, hb1⟩
    have HO1 := hid ho1; clear ho1
    have HR1 := hid (HR.out.below hb1)
    have HB1 := hid hb1; clear hb1
    go_wp2_with fail
    refine (HS.out _ _ _ HO1.out.rd).mono ?_
    rintro e w2 ⟨rfl, hb2⟩
    have HR2 := hid (HR1.out.below hb2)
    have HB2 := hid (Below.step HB1.out hb2); clear hb2
    go_wp2_with fail
    refine (toEventS_any HR2.out hbig).mono ?_
    rintro e w3 ⟨A3, c3, rfl, ho3, hb3⟩
    have HO3 := hid ho3; clear ho3
    have HR3 := hid (HR2.out.below hb3)
    have HB3 := hid (Below.step HB2.out hb3); clear hb3
    go_wp2_with fail
    refine (HI.out _ _ _ HO3.out.rd (TabIs_below HP.out HB3.out)).mono ?_
    rintro e w4 ⟨rfl, hb4⟩
    have HO4 := hid (HO3.out.below hb4)
    have HR4 := hid (HR3.out.below hb4)
    have HB4 := hid (Below.step HB3.out hb4); clear hb4
    go_wp2_with fail
    refine (toEventS_any HR4.out hbig).mono ?_
    rintro e w5 ⟨A5, c5, rfl, ho5, hb5⟩
    have HO5 := hid ho5; clear ho5
    have HO45 := hid (HO4.out.below hb5)
    have HB5 := hid (Below.step HB4.out hb5); clear hb5
    go_wp2_with fail
    refine (eqEventS_same HO45.out.rd HO5.out.rd hbig).mono ?_
    rintro e w6 ⟨rfl, hb6⟩
    have HB6 := hid (Below.step HB5.out hb6); clear hb6
    go_wp2
    go_ret
    exact ⟨rfl, HB6.out⟩
  · have HZ := hid (szEventS_no (A := A) (cap := cap) hbig hmx)
    go_enter Tryd.func6, Tryd.ntmps6
    go_wp2_with (go_at_call 18; (with_reducible refine (HZ.out _).mono ?_); rintro e w' ⟨rfl, rfl⟩)
    go_ret
    exact ⟨rfl, Below.refl _ _⟩
end Go.Proofs.YtpfocjdhjkifmaaDoor
