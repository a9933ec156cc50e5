/- The laws that IsEvents and HeldAfter answer as the reference. Conditions: none. -/
import Derived.Test.YthjgapjagfjamaaEvC
namespace Go.Proofs.Ythjgapjagfjamaa
open Go.RowKit
set_option linter.unusedVariables false

/-- What a law is handed: a slice of events. -/
def InEvs (w : World) (A : Option Addr) (n : Nat) (zs : List EV.Ev) : Prop :=
  zs.length = n ∧ n ≤ maxLen ∧ Reads w w.heap.size 3 A n (evCs zs) ∧ ∀ z ∈ zs, (Lit.int .i64 z.time).wf = true ∧ (Lit.int .i64 z.key).wf = true
theorem szEventS_yes {A : Option Addr} {n cap : Nat} (h : n ≤ 1048576) (w : World) : Calls Try.prog 14 #[.slice A n cap, .int .i64 1048576] w fun e w' => e = .returned (.int .i64 (1048576 - (n : Int))) ∧ w = w' := by
  have h2 : ¬ ((1048576 : Int) - n < 0) := by omega
  go_enter Try.func14, Try.ntmps14
  go_wp2
  go_ret
  exact ⟨rfl, rfl⟩
theorem szEventS_no {A : Option Addr} {n cap : Nat} (h : ¬ n ≤ 1048576) (hm : n ≤ maxLen) (w : World) : Calls Try.prog 14 #[.slice A n cap, .int .i64 1048576] w fun e w' => e = .returned (.int .i64 (-1)) ∧ w = w' := by
  unfold maxLen at hm
  have h2 : ((1048576 : Int) - n < 0) := by omega
  go_enter Try.func14, Try.ntmps14
  go_wp2
  go_ret
  exact ⟨rfl, rfl⟩
set_option maxRecDepth 100000 in
set_option maxHeartbeats 1000000 in
theorem walk_FnExactIsEvents (A : Option Addr) (n cap : Nat) (xs : List EV.Ev) (w : World) (hin : InEvs w A n xs) :
    Calls Try.prog 5 #[.slice A n cap] w fun e w' => e = .returned (.bool true) ∧ Below w.heap.size w w' := by
  obtain ⟨hl, hmx, hrd, _⟩ := hin
  have HR := hid (show RdE w A n xs from ⟨hl, hrd⟩)
  subst hl
  have HS := hid (fun (W : World) (A : Option Addr) (c : Nat) (h : RdE W A xs.length xs) => sIsEvents_any (cap := c) h hmx)
  have HI := hid (fun (W : World) (A : Option Addr) (c : Nat) (h : RdE W A xs.length xs) => iIsEvents_any (cap := c) h hmx)
  clear hrd
  by_cases hbig : xs.length ≤ 1048576
  · have HZ := hid (szEventS_yes (A := A) (cap := cap) hbig)
    have hr1 : ¬ ((1048576 : Int) - (xs.length : Int) < 0) := by omega
    clear hmx
    go_enter Try.func5, Try.ntmps5
    go_wp2_with (go_at_call 14; (with_reducible refine (HZ.out _).mono ?_); rintro e w' ⟨rfl, rfl⟩)
    refine (toEventS_any HR.out hbig).mono ?_
    rintro e w1 ⟨A1, c1, rfl, ho1, hb1⟩
    have HO1 := hid ho1; clear ho1
    have HR1 := hid (HR.out.below hb1)
    have HB1 := hid hb1; clear hb1
    go_wp2_with fail
    refine (HS.out _ _ _ HO1.out.rd).mono ?_
    rintro e w2 ⟨rfl, hb2⟩
    have HR2 := hid (HR1.out.below hb2)
    have HB2 := hid (Below.step HB1.out hb2); clear hb2
    go_wp2_with fail
    refine (toEventS_any HR2.out hbig).mono ?_
    rintro e w3 ⟨A3, c3, rfl, ho3, hb3⟩
    have HO3 := hid ho3; clear ho3
    have HR3 := hid (HR2.out.below hb3)
    have HB3 := hid (Below.step HB2.out hb3); clear hb3
    go_wp2_with fail
    refine (HI.out _ _ _ HO3.out.rd).mono ?_
    rintro e w4 ⟨rfl, hb4⟩
    have HO4 := hid (HO3.out.below hb4)
    have HR4 := hid (HR3.out.below hb4)
    have HB4 := hid (Below.step HB3.out hb4); clear hb4
    go_wp2_with fail
    refine (toEventS_any HR4.out hbig).mono ?_
    rintro e w5 ⟨A5, c5, rfl, ho5, hb5⟩
    have HO5 := hid ho5; clear ho5
    have HO45 := hid (HO4.out.below hb5)
    have HB5 := hid (Below.step HB4.out hb5); clear hb5
    go_wp2_with fail
    refine (eqEventS_same HO45.out.rd HO5.out.rd hbig).mono ?_
    rintro e w6 ⟨rfl, hb6⟩
    have HB6 := hid (Below.step HB5.out hb6); clear hb6
    go_wp2
    go_ret
    exact ⟨rfl, HB6.out⟩
  · have HZ := hid (szEventS_no (A := A) (cap := cap) hbig hmx)
    go_enter Try.func5, Try.ntmps5
    go_wp2_with (go_at_call 14; (with_reducible refine (HZ.out _).mono ?_); rintro e w' ⟨rfl, rfl⟩)
    go_ret
    exact ⟨rfl, Below.refl _ _⟩
set_option maxRecDepth 100000 in
set_option maxHeartbeats 1000000 in
theorem walk_FnExactHeldAfter (A : Option Addr) (n cap : Nat) (xs : List EV.Ev) (w : World) (hin : InEvs w A n xs) :
    Calls Try.prog 6 #[.slice A n cap] w fun e w' => e = .returned (.bool true) ∧ Below w.heap.size w w' := by
  obtain ⟨hl, hmx, hrd, _⟩ := hin
  have HR := hid (show RdE w A n xs from ⟨hl, hrd⟩)
  subst hl
  have HS := hid (fun (W : World) (A : Option Addr) (c : Nat) (h : RdE W A xs.length xs) => sHeldAfter_any (cap := c) h hmx)
  have HI := hid (fun (W : World) (A : Option Addr) (c : Nat) (h : RdE W A xs.length xs) => iHeldAfter_any (cap := c) h hmx)
  clear hrd
  by_cases hbig : xs.length ≤ 1048576
  · have HZ := hid (szEventS_yes (A := A) (cap := cap) hbig)
    have hr1 : ¬ ((1048576 : Int) - (xs.length : Int) < 0) := by omega
    clear hmx
    go_enter Try.func6, Try.ntmps6
    go_wp2_with (go_at_call 14; (with_reducible refine (HZ.out _).mono ?_); rintro e w' ⟨rfl, rfl⟩)
    refine (toEventS_any HR.out hbig).mono ?_
    rintro e w1 ⟨A1, c1, rfl, ho1, hb1⟩
    have HO1 := hid ho1; clear ho1
    have HR1 := hid (HR.out.below hb1)
    have HB1 := hid hb1; clear hb1
    go_wp2_with fail
    refine (HS.out _ _ _ HO1.out.rd).mono ?_
    rintro e w2 ⟨rfl, hb2⟩
    have HR2 := hid (HR1.out.below hb2)
    have HB2 := hid (Below.step HB1.out hb2); clear hb2
    go_wp2_with fail
    refine (toEventS_any HR2.out hbig).mono ?_
    rintro e w3 ⟨A3, c3, rfl, ho3, hb3⟩
    have HO3 := hid ho3; clear ho3
    have HR3 := hid (HR2.out.below hb3)
    have HB3 := hid (Below.step HB2.out hb3); clear hb3
    go_wp2_with fail
    refine (HI.out _ _ _ HO3.out.rd).mono ?_
    rintro e w4 ⟨rfl, hb4⟩
    have HO4 := hid (HO3.out.below hb4)
    have HR4 := hid (HR3.out.below hb4)
    have HB4 := hid (Below.step HB3.out hb4); clear hb4
    go_wp2_with fail
    refine (toEventS_any HR4.out hbig).mono ?_
    rintro e w5 ⟨A5, c5, rfl, ho5, hb5⟩
    have HO5 := hid ho5; clear ho5
    have HO45 := hid (HO4.out.below hb5)
    have HB5 := hid (Below.step HB4.out hb5); clear hb5
    go_wp2_with fail
    refine (eqEventS_same HO45.out.rd HO5.out.rd hbig).mono ?_
    rintro e w6 ⟨rfl, hb6⟩
    have HB6 := hid (Below.step HB5.out hb6); clear hb6
    go_wp2
    go_ret
    exact ⟨rfl, HB6.out⟩
  · have HZ := hid (szEventS_no (A := A) (cap := cap) hbig hmx)
    go_enter Try.func6, Try.ntmps6
    go_wp2_with (go_at_call 14; (with_reducible refine (HZ.out _).mono ?_); rintro e w' ⟨rfl, rfl⟩)
    go_ret
    exact ⟨rfl, Below.refl _ _⟩
end Go.Proofs.Ythjgapjagfjamaa
